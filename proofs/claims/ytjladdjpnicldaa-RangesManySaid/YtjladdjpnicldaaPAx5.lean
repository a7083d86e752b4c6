-- printed by wip/print_given.py (a program of this session over the kit's printer); not trusted: Lean checks it
import Derived.Test.YtjladdjpnicldaaPAx0
import Derived.Test.YtjladdjpnicldaaPAx4
namespace Go.Proofs.Ytjladdjpnicldaa.PA
open Go.RowKit Go.Proofs.YtjladdjpnicldaaW.PrintWords Go.Proofs.YtjladdjpnicldaaW.PrintLast Go.Proofs.YtjladdjpnicldaaW.PrintMore
attribute [local go_sem] max2_int min2_int max_two min_two max_three min_three max_four min_four   -- for this text's walks alone
set_option linter.unusedVariables false
set_option linter.unusedSimpArgs false

theorem empN5 (l : List UInt8) : l.isEmpty = !(l != []) := by cases l <;> rfl
/-! ### delta_Valid: function 45 -/
mutual
def delta_Valid.l0 : Nat → List (S56) → List (S56) → Int → Int → Option (Bool)
  | 0, _, _, _, _ => none
  | k + 1, x0, x8, x9, x10 => if x10 < x9 then (if 0 ≤ x10 then (if x10 < (x8.length : Int) then (if ((rd_T56 x8 x10).f0) = 1 then (delta_Valid.j1 k x0 x10 x8 x9 x10 ((rd_T56 x8 x10).f0) (((rd_T56 x8 x10).f0) == 1) ((rd_T56 x8 x10).f0) ((rd_T56 x8 x10).f1) ((rd_T56 x8 x10).f2)) else (delta_Valid.j1 k x0 x10 x8 x9 x10 ((rd_T56 x8 x10).f0) (((rd_T56 x8 x10).f0) == 3) ((rd_T56 x8 x10).f0) ((rd_T56 x8 x10).f1) ((rd_T56 x8 x10).f2))) else (none)) else (none)) else ((delta_lens.f k x0).bind fun bt103 => (some bt103.2.2))
def delta_Valid.j1 : Nat → List (S56) → Int → List (S56) → Int → Int → Int → Bool → Int → Int → ByteArray → Option (Bool)
  | 0, _, _, _, _, _, _, _, _, _, _ => none
  | k + 1, x0, x3, x8, x9, x10, x16, x17, x108000, x108001, x108002 => if x17 = true then (if x108001 < 1 then (delta_Valid.j2 k x0 x3 x8 x9 x10 true x108000 x108001 x108002) else (delta_Valid.j2 k x0 x3 x8 x9 x10 (x108002.toList != ([] : List UInt8)) x108000 x108001 x108002)) else (if x16 = 2 then (if x108001 = 0 then (delta_Valid.j3 k x0 x3 x8 x9 x10 (x108002.toList == ([] : List UInt8)) x108000 x108001 x108002) else (delta_Valid.j3 k x0 x3 x8 x9 x10 true x108000 x108001 x108002)) else (some false))
def delta_Valid.j2 : Nat → List (S56) → Int → List (S56) → Int → Int → Bool → Int → Int → ByteArray → Option (Bool)
  | 0, _, _, _, _, _, _, _, _, _ => none
  | k + 1, x0, x3, x8, x9, x10, x27, x108000, x108001, x108002 => if x27 = true then (some false) else (if x3 > 0 then (if 0 ≤ (wrap64 (x3 - 1)) then (if (wrap64 (x3 - 1)) < (x0.length : Int) then (if ((rd_T56 x0 (wrap64 (x3 - 1))).f0) = x108000 then (some false) else (if ((rd_T56 x0 (wrap64 (x3 - 1))).f0) = 3 then (if x108000 = 2 then (some false) else (delta_Valid.l0 k x0 x8 x9 (wrap64 (x10 + 1)))) else (delta_Valid.l0 k x0 x8 x9 (wrap64 (x10 + 1))))) else (none)) else (none)) else (delta_Valid.l0 k x0 x8 x9 (wrap64 (x10 + 1))))
def delta_Valid.j3 : Nat → List (S56) → Int → List (S56) → Int → Int → Bool → Int → Int → ByteArray → Option (Bool)
  | 0, _, _, _, _, _, _, _, _, _ => none
  | k + 1, x0, x3, x8, x9, x10, x37, x108000, x108001, x108002 => if x37 = true then (some false) else (if x3 > 0 then (if 0 ≤ (wrap64 (x3 - 1)) then (if (wrap64 (x3 - 1)) < (x0.length : Int) then (if ((rd_T56 x0 (wrap64 (x3 - 1))).f0) = x108000 then (some false) else (if ((rd_T56 x0 (wrap64 (x3 - 1))).f0) = 3 then (if x108000 = 2 then (some false) else (delta_Valid.l0 k x0 x8 x9 (wrap64 (x10 + 1)))) else (delta_Valid.l0 k x0 x8 x9 (wrap64 (x10 + 1))))) else (none)) else (none)) else (delta_Valid.l0 k x0 x8 x9 (wrap64 (x10 + 1))))
end
def delta_Valid.f (k : Nat) (l0 : List (S56)) : Option (Bool) := delta_Valid.l0 k l0 l0 (l0.length : Int) 0
theorem delta_Valid.mono_l : ∀ k, (∀ y0 y1 y2 y3, LeO (delta_Valid.l0 k y0 y1 y2 y3) (delta_Valid.l0 (k + 1) y0 y1 y2 y3)) ∧ (∀ y0 y1 y2 y3 y4 y5 y6 y7 y8 y9, LeO (delta_Valid.j1 k y0 y1 y2 y3 y4 y5 y6 y7 y8 y9) (delta_Valid.j1 (k + 1) y0 y1 y2 y3 y4 y5 y6 y7 y8 y9)) ∧ (∀ y0 y1 y2 y3 y4 y5 y6 y7 y8, LeO (delta_Valid.j2 k y0 y1 y2 y3 y4 y5 y6 y7 y8) (delta_Valid.j2 (k + 1) y0 y1 y2 y3 y4 y5 y6 y7 y8)) ∧ (∀ y0 y1 y2 y3 y4 y5 y6 y7 y8, LeO (delta_Valid.j3 k y0 y1 y2 y3 y4 y5 y6 y7 y8) (delta_Valid.j3 (k + 1) y0 y1 y2 y3 y4 y5 y6 y7 y8))
  | 0 => ⟨fun _ _ _ _ r h => by simp [delta_Valid.l0] at h, fun _ _ _ _ _ _ _ _ _ _ r h => by simp [delta_Valid.j1] at h, fun _ _ _ _ _ _ _ _ _ r h => by simp [delta_Valid.j2] at h, fun _ _ _ _ _ _ _ _ _ r h => by simp [delta_Valid.j3] at h⟩
  | k + 1 => by
    obtain ⟨ih0, ih1, ih2, ih3⟩ := delta_Valid.mono_l k
    refine ⟨?_, ?_, ?_, ?_⟩
    · intro y0 y1 y2 y3
      unfold delta_Valid.l0
      repeat' first
      | (with_reducible exact ih0 _ _ _ _)
      | (with_reducible exact ih1 _ _ _ _ _ _ _ _ _ _)
      | (with_reducible exact ih2 _ _ _ _ _ _ _ _ _)
      | (with_reducible exact ih3 _ _ _ _ _ _ _ _ _)
      | (with_reducible exact delta_lens.mono _ _)
      | (with_reducible exact LeO.refl _)
      | (with_reducible exact LeO.none _)
      | (with_reducible refine LeO.ite ?_ ?_)
      | (with_reducible refine LeO.bind ?_ (fun _ => ?_))
      | exact ih0 _ _ _ _
      | exact ih1 _ _ _ _ _ _ _ _ _ _
      | exact ih2 _ _ _ _ _ _ _ _ _
      | exact ih3 _ _ _ _ _ _ _ _ _
      | exact delta_lens.mono _ _
      | exact LeO.none _
      | refine LeO.ite ?_ ?_
      | refine LeO.bind ?_ (fun _ => ?_)
    · intro y0 y1 y2 y3 y4 y5 y6 y7 y8 y9
      unfold delta_Valid.j1
      repeat' first
      | (with_reducible exact ih0 _ _ _ _)
      | (with_reducible exact ih1 _ _ _ _ _ _ _ _ _ _)
      | (with_reducible exact ih2 _ _ _ _ _ _ _ _ _)
      | (with_reducible exact ih3 _ _ _ _ _ _ _ _ _)
      | (with_reducible exact delta_lens.mono _ _)
      | (with_reducible exact LeO.refl _)
      | (with_reducible exact LeO.none _)
      | (with_reducible refine LeO.ite ?_ ?_)
      | (with_reducible refine LeO.bind ?_ (fun _ => ?_))
      | exact ih0 _ _ _ _
      | exact ih1 _ _ _ _ _ _ _ _ _ _
      | exact ih2 _ _ _ _ _ _ _ _ _
      | exact ih3 _ _ _ _ _ _ _ _ _
      | exact delta_lens.mono _ _
      | exact LeO.none _
      | refine LeO.ite ?_ ?_
      | refine LeO.bind ?_ (fun _ => ?_)
    · intro y0 y1 y2 y3 y4 y5 y6 y7 y8
      unfold delta_Valid.j2
      repeat' first
      | (with_reducible exact ih0 _ _ _ _)
      | (with_reducible exact ih1 _ _ _ _ _ _ _ _ _ _)
      | (with_reducible exact ih2 _ _ _ _ _ _ _ _ _)
      | (with_reducible exact ih3 _ _ _ _ _ _ _ _ _)
      | (with_reducible exact delta_lens.mono _ _)
      | (with_reducible exact LeO.refl _)
      | (with_reducible exact LeO.none _)
      | (with_reducible refine LeO.ite ?_ ?_)
      | (with_reducible refine LeO.bind ?_ (fun _ => ?_))
      | exact ih0 _ _ _ _
      | exact ih1 _ _ _ _ _ _ _ _ _ _
      | exact ih2 _ _ _ _ _ _ _ _ _
      | exact ih3 _ _ _ _ _ _ _ _ _
      | exact delta_lens.mono _ _
      | exact LeO.none _
      | refine LeO.ite ?_ ?_
      | refine LeO.bind ?_ (fun _ => ?_)
    · intro y0 y1 y2 y3 y4 y5 y6 y7 y8
      unfold delta_Valid.j3
      repeat' first
      | (with_reducible exact ih0 _ _ _ _)
      | (with_reducible exact ih1 _ _ _ _ _ _ _ _ _ _)
      | (with_reducible exact ih2 _ _ _ _ _ _ _ _ _)
      | (with_reducible exact ih3 _ _ _ _ _ _ _ _ _)
      | (with_reducible exact delta_lens.mono _ _)
      | (with_reducible exact LeO.refl _)
      | (with_reducible exact LeO.none _)
      | (with_reducible refine LeO.ite ?_ ?_)
      | (with_reducible refine LeO.bind ?_ (fun _ => ?_))
      | exact ih0 _ _ _ _
      | exact ih1 _ _ _ _ _ _ _ _ _ _
      | exact ih2 _ _ _ _ _ _ _ _ _
      | exact ih3 _ _ _ _ _ _ _ _ _
      | exact delta_lens.mono _ _
      | exact LeO.none _
      | refine LeO.ite ?_ ?_
      | refine LeO.bind ?_ (fun _ => ?_)
theorem delta_Valid.mono : ∀ a0 k, LeO (delta_Valid.f k a0) (delta_Valid.f (k + 1) a0) := by
  intro a0 k
  obtain ⟨ih0, ih1, ih2, ih3⟩ := delta_Valid.mono_l k
  unfold delta_Valid.f
  repeat' first
      | (with_reducible exact ih0 _ _ _ _)
      | (with_reducible exact ih1 _ _ _ _ _ _ _ _ _ _)
      | (with_reducible exact ih2 _ _ _ _ _ _ _ _ _)
      | (with_reducible exact ih3 _ _ _ _ _ _ _ _ _)
      | (with_reducible exact delta_lens.mono _ _)
      | (with_reducible exact LeO.refl _)
      | (with_reducible exact LeO.none _)
      | (with_reducible refine LeO.ite ?_ ?_)
      | (with_reducible refine LeO.bind ?_ (fun _ => ?_))
      | exact ih0 _ _ _ _
      | exact ih1 _ _ _ _ _ _ _ _ _ _
      | exact ih2 _ _ _ _ _ _ _ _ _
      | exact ih3 _ _ _ _ _ _ _ _ _
      | exact delta_lens.mono _ _
      | exact LeO.none _
      | refine LeO.ite ?_ ?_
      | refine LeO.bind ?_ (fun _ => ?_)
set_option maxHeartbeats 8000000 in
set_option maxRecDepth 100000 in
theorem delta_Valid.calls (k : Nat) (A0 : Option Addr) (c0 : Nat) (l0 : List (S56)) (r : Bool) (w : World) (hr0 : Kd.C k56 w A0 l0.length l0) (hc0 : l0.length ≤ c0) (h : delta_Valid.f k l0 = some r) :
    Calls Try.prog 45 #[.slice A0 l0.length c0] w fun e w' => e = .returned (.bool r) ∧ Below w.heap.size w w' := by
  have hu56 := Try.underlying56
  have HR0 := Aside0.mk hr0
  have HC0 := Aside0.mk hc0
  clear hr0 hc0
  have HB := Aside0.mk (Below.refl w.heap.size w)
  have H : (delta_Valid.l0 k l0 l0 (l0.length : Int) 0) = some r := h
  clear h
  have H' := Aside0.mk H
  clear H
  go_enter Try.func45, Try.ntmps45
  go_wp2
  repeat (go_quiet (fail); try go_wp2)
  go_loopg [10] k (fun kq v10 w' => ∃ (x10_1 : Int), v10 = .int .i64 x10_1 ∧ Aside0 (delta_Valid.l0 kq l0 l0 (l0.length : Int) x10_1 = some r) ∧ Aside0 (kq ≤ k) ∧ Aside0 (Below w.heap.size w w'))
  case atStart => exact ⟨(0), (by first | rfl | (simp; done) | (simp [*]; done) | (simp; exact empN5 _)), H', ⟨Nat.le_refl _⟩, ⟨by repeat (first | (with_reducible first | exact HB.out | apply below_alloc | apply pw_below_drewN | apply below_drew1) | exact HB.out)⟩⟩
  case round =>
    clear H'
    obtain ⟨x10_1, rfl, HA, HK1, HB⟩ := hrel
    cases gk with
    | zero => exact absurd HA.out (by simp [delta_Valid.l0])
    | succ k1 =>
      have H := HA.out
      clear HA
      simp only [delta_Valid.l0] at H
      by_cases c2 : x10_1 < (l0.length : Int)
      · rw [if_pos c2] at H
        have c2b0 : decide (x10_1 < (l0.length : Int)) = true := decide_eq_true c2
        clear c2
        by_cases c3 : 0 ≤ x10_1
        · rw [if_pos c3] at H
          have c3b0 : decide (0 ≤ x10_1) = true := decide_eq_true c3
          clear c3
          by_cases c4 : x10_1 < (l0.length : Int)
          · rw [if_pos c4] at H
            have c4b0 : decide (x10_1 < (l0.length : Int)) = true := decide_eq_true c4
            clear c4
            have HC5 := Aside0.mk H
            clear H
            have p106 : 0 ≤ (x10_1 : Int) := of_decide_eq_true (by first | (with_reducible assumption) | assumption)
            have q106 : x10_1 < (l0.length : Int) := of_decide_eq_true (by first | (with_reducible assumption) | assumption)
            obtain ⟨ad106, e106, hx106_0, hx106_1, hx106_2⟩ := at_T56 HR0.out x10_1 p106 q106
            cases e106
            replace hx106_0 := (HB.out.cell (World.block_lt_of_cell? w _ hx106_0)).trans hx106_0
            replace hx106_1 := (HB.out.cell (World.block_lt_of_cell? w _ hx106_1)).trans hx106_1
            replace hx106_2 := (HB.out.cell (World.block_lt_of_cell? w _ hx106_2)).trans hx106_2
            replace p106 := eq_true p106
            replace q106 := eq_true q106
            go_upto_if 17 with (first | ((with_reducible refine gate_dst (N := 4) rfl ?_); refine box_event ?hg (N := 4) ?hd (cs := #[.int .i64 0, .int .i64 0, .string (⟨#[]⟩ : ByteArray)]) (t := 56) ?hr ?_; (case hd => rfl); (case hg => rfl); (case hr => first | (go_simp; done) | (go_simp; rfl)); intro gb107 hg w6 hbox hb; have n0_ := Aside0.mk (below_step (by repeat (first | (with_reducible first | exact HB.out | apply below_alloc | apply pw_below_drewN | apply below_drew1) | exact HB.out)) hb); have n1_ := Aside0.mk (hbox); have n2_ := Aside0.mk ((by rw [hg]; exact (below_size (by repeat (first | (with_reducible first | exact HB.out | apply below_alloc | apply pw_below_drewN | apply below_drew1) | exact HB.out))) : w.heap.size ≤ gb107)); have n3_ := Aside0.mk ((by rw [hg]; exact (below_size (by repeat (first | (with_reducible first | exact HB.out | apply below_alloc | apply pw_below_drewN | apply below_drew1) | exact HB.out))) : w.heap.size ≤ gb107)); clear HB; have HB := n0_; have BK107 := n1_; have GW107 := n2_; have GE107 := n3_; clear n0_ n1_ n2_ n3_; clear hb hbox hg; have hcz7_0 : w6.cell? ⟨gb107, 0, none⟩ = some (.int .i64 0) := (blk_cell BK107.out 0).trans rfl; have hcz7_1 : w6.cell? ⟨gb107, 1, none⟩ = some (.int .i64 0) := (blk_cell BK107.out 1).trans rfl; have hcz7_2 : w6.cell? ⟨gb107, 2, none⟩ = some (.string (⟨#[]⟩ : ByteArray)) := (blk_cell BK107.out 2).trans rfl; have hfz7_0 := blk_frozen BK107.out 0; have hfz7_1 := blk_frozen BK107.out 1; have hfz7_2 := blk_frozen BK107.out 2))
            repeat (go_quiet (first | ((with_reducible refine gate_dst (N := 4) rfl ?_); refine box_event ?hg (N := 4) ?hd (cs := #[.int .i64 0, .int .i64 0, .string (⟨#[]⟩ : ByteArray)]) (t := 56) ?hr ?_; (case hd => rfl); (case hg => rfl); (case hr => first | (go_simp; done) | (go_simp; rfl)); intro gb107 hg w6 hbox hb; have n0_ := Aside0.mk (below_step (by repeat (first | (with_reducible first | exact HB.out | apply below_alloc | apply pw_below_drewN | apply below_drew1) | exact HB.out)) hb); have n1_ := Aside0.mk (hbox); have n2_ := Aside0.mk ((by rw [hg]; exact (below_size (by repeat (first | (with_reducible first | exact HB.out | apply below_alloc | apply pw_below_drewN | apply below_drew1) | exact HB.out))) : w.heap.size ≤ gb107)); have n3_ := Aside0.mk ((by rw [hg]; exact (below_size (by repeat (first | (with_reducible first | exact HB.out | apply below_alloc | apply pw_below_drewN | apply below_drew1) | exact HB.out))) : w.heap.size ≤ gb107)); clear HB; have HB := n0_; have BK107 := n1_; have GW107 := n2_; have GE107 := n3_; clear n0_ n1_ n2_ n3_; clear hb hbox hg; have hcz7_0 : w6.cell? ⟨gb107, 0, none⟩ = some (.int .i64 0) := (blk_cell BK107.out 0).trans rfl; have hcz7_1 : w6.cell? ⟨gb107, 1, none⟩ = some (.int .i64 0) := (blk_cell BK107.out 1).trans rfl; have hcz7_2 : w6.cell? ⟨gb107, 2, none⟩ = some (.string (⟨#[]⟩ : ByteArray)) := (blk_cell BK107.out 2).trans rfl; have hfz7_0 := blk_frozen BK107.out 0; have hfz7_1 := blk_frozen BK107.out 1; have hfz7_2 := blk_frozen BK107.out 2)); go_upto_if 17 with (first | ((with_reducible refine gate_dst (N := 4) rfl ?_); refine box_event ?hg (N := 4) ?hd (cs := #[.int .i64 0, .int .i64 0, .string (⟨#[]⟩ : ByteArray)]) (t := 56) ?hr ?_; (case hd => rfl); (case hg => rfl); (case hr => first | (go_simp; done) | (go_simp; rfl)); intro gb107 hg w6 hbox hb; have n0_ := Aside0.mk (below_step (by repeat (first | (with_reducible first | exact HB.out | apply below_alloc | apply pw_below_drewN | apply below_drew1) | exact HB.out)) hb); have n1_ := Aside0.mk (hbox); have n2_ := Aside0.mk ((by rw [hg]; exact (below_size (by repeat (first | (with_reducible first | exact HB.out | apply below_alloc | apply pw_below_drewN | apply below_drew1) | exact HB.out))) : w.heap.size ≤ gb107)); have n3_ := Aside0.mk ((by rw [hg]; exact (below_size (by repeat (first | (with_reducible first | exact HB.out | apply below_alloc | apply pw_below_drewN | apply below_drew1) | exact HB.out))) : w.heap.size ≤ gb107)); clear HB; have HB := n0_; have BK107 := n1_; have GW107 := n2_; have GE107 := n3_; clear n0_ n1_ n2_ n3_; clear hb hbox hg; have hcz7_0 : w6.cell? ⟨gb107, 0, none⟩ = some (.int .i64 0) := (blk_cell BK107.out 0).trans rfl; have hcz7_1 : w6.cell? ⟨gb107, 1, none⟩ = some (.int .i64 0) := (blk_cell BK107.out 1).trans rfl; have hcz7_2 : w6.cell? ⟨gb107, 2, none⟩ = some (.string (⟨#[]⟩ : ByteArray)) := (blk_cell BK107.out 2).trans rfl; have hfz7_0 := blk_frozen BK107.out 0; have hfz7_1 := blk_frozen BK107.out 1; have hfz7_2 := blk_frozen BK107.out 2)))
            (try simp only [Act.put, List.setIfInBounds_toArray, List.set_cons_zero, List.set_cons_succ])
            go_cut [17] (fun v17 wc => ∃ (kq : Nat) (x17_4 : Bool), v17 = .bool x17_4 ∧ Aside0 (delta_Valid.j1 kq l0 x10_1 l0 (l0.length : Int) x10_1 ((rd_T56 l0 x10_1).f0) x17_4 ((rd_T56 l0 x10_1).f0) ((rd_T56 l0 x10_1).f1) ((rd_T56 l0 x10_1).f2) = some r) ∧ Aside0 (kq ≤ k1) ∧ Aside0 (wc.heap[gb107]? = some (.cells #[.int .i64 ((rd_T56 l0 x10_1).f0), .int .i64 ((rd_T56 l0 x10_1).f1), .string ((rd_T56 l0 x10_1).f2)] 56 (0, 0))) ∧ Aside0 (Below w.heap.size w wc))
            case first =>
              have H := HC5.out
              clear HC5
              by_cases c8 : ((rd_T56 l0 x10_1).f0) = 1
              · rw [if_pos c8] at H
                have c8b0 : (((rd_T56 l0 x10_1).f0) == 1) = true := beq_iff_eq.mpr c8
                have c8b1 : (((rd_T56 l0 x10_1).f0) != 1) = false := bne_eq_false_iff_eq.mpr c8
                clear c8
                (first | rw [c8b0] | (simp only [i64_w, i32_w]; rw [c8b0]) | skip)
                have H' := Aside0.mk H
                clear H
                go_wp2
                repeat (go_quiet (fail); try go_wp2)
                go_meet
                case rel => exact ⟨_, ((((rd_T56 l0 x10_1).f0) == 1)), (by first | rfl | (simp; done) | (simp [*]; done) | (simp; exact empN5 _)), H', ⟨by have := HK1.out; first | omega | exact Nat.le_refl _⟩, ⟨by (with_reducible repeat (first | refine blk_drewN ?_ _ | refine blk_drew ?_ | refine blk_alloc ?_ _)); refine blk_put (cs := #[.int .i64 ((rd_T56 l0 x10_1).f0), .int .i64 ((rd_T56 l0 x10_1).f1), .string (⟨#[]⟩ : ByteArray)]) ?_ 2 _ rfl; (with_reducible repeat (first | refine blk_drewN ?_ _ | refine blk_drew ?_ | refine blk_alloc ?_ _)); refine blk_put (cs := #[.int .i64 ((rd_T56 l0 x10_1).f0), .int .i64 0, .string (⟨#[]⟩ : ByteArray)]) ?_ 1 _ rfl; (with_reducible repeat (first | refine blk_drewN ?_ _ | refine blk_drew ?_ | refine blk_alloc ?_ _)); refine blk_put (cs := #[.int .i64 0, .int .i64 0, .string (⟨#[]⟩ : ByteArray)]) ?_ 0 _ rfl; (with_reducible repeat (first | refine blk_drewN ?_ _ | refine blk_drew ?_ | refine blk_alloc ?_ _)); exact BK107.out⟩, ⟨by repeat (first | (with_reducible first | exact HB.out | apply below_alloc | apply pw_below_drewN | apply below_drew1 | refine below_set ?_ GE107.out) | exact HB.out)⟩⟩
              · rw [if_neg c8] at H
                have c8b0 : (((rd_T56 l0 x10_1).f0) == 1) = false := beq_eq_false_iff_ne.mpr c8
                have c8b1 : (((rd_T56 l0 x10_1).f0) != 1) = true := bne_iff_ne.mpr c8
                (first | rw [c8b0] | (simp only [i64_w, i32_w]; rw [c8b0]) | skip)
                have H' := Aside0.mk H
                clear H
                go_wp2
                repeat (go_quiet (fail); try go_wp2)
                go_meet
                case rel => exact ⟨_, ((((rd_T56 l0 x10_1).f0) == 3)), (by first | rfl | (simp; done) | (simp [*]; done) | (simp; exact empN5 _)), H', ⟨by have := HK1.out; first | omega | exact Nat.le_refl _⟩, ⟨by (with_reducible repeat (first | refine blk_drewN ?_ _ | refine blk_drew ?_ | refine blk_alloc ?_ _)); refine blk_put (cs := #[.int .i64 ((rd_T56 l0 x10_1).f0), .int .i64 ((rd_T56 l0 x10_1).f1), .string (⟨#[]⟩ : ByteArray)]) ?_ 2 _ rfl; (with_reducible repeat (first | refine blk_drewN ?_ _ | refine blk_drew ?_ | refine blk_alloc ?_ _)); refine blk_put (cs := #[.int .i64 ((rd_T56 l0 x10_1).f0), .int .i64 0, .string (⟨#[]⟩ : ByteArray)]) ?_ 1 _ rfl; (with_reducible repeat (first | refine blk_drewN ?_ _ | refine blk_drew ?_ | refine blk_alloc ?_ _)); refine blk_put (cs := #[.int .i64 0, .int .i64 0, .string (⟨#[]⟩ : ByteArray)]) ?_ 0 _ rfl; (with_reducible repeat (first | refine blk_drewN ?_ _ | refine blk_drew ?_ | refine blk_alloc ?_ _)); exact BK107.out⟩, ⟨by repeat (first | (with_reducible first | exact HB.out | apply below_alloc | apply pw_below_drewN | apply below_drew1 | refine below_set ?_ GE107.out) | exact HB.out)⟩⟩
            case rest =>
              clear HC5
              try clear p1
              try clear q1
              try clear hx1
              try clear c2
              try clear c2b0
              try clear p2
              try clear c3
              try clear c3b0
              try clear c4
              try clear c4b0
              try clear c8
              try clear c8b0
              try clear c8b1
              try clear hcz7_0
              try clear hcz7_1
              try clear hcz7_2
              try clear hfz7_0
              try clear hfz7_1
              try clear hfz7_2
              try clear hx106_0
              try clear hx106_1
              try clear hx106_2
              try clear p106
              try clear q106
              obtain ⟨kq, x17_4, rfl, HA, HJ4, BK107, HB⟩ := hcut
              cases kq with
              | zero => exact absurd HA.out (by simp [delta_Valid.j1])
              | succ kj4 =>
                have H := HA.out
                clear HA
                simp only [delta_Valid.j1] at H
                by_cases c9 : x17_4 = true
                · subst c9
                  have H1 : (if ((rd_T56 l0 x10_1).f1) < 1 then (delta_Valid.j2 kj4 l0 x10_1 l0 (l0.length : Int) x10_1 true ((rd_T56 l0 x10_1).f0) ((rd_T56 l0 x10_1).f1) ((rd_T56 l0 x10_1).f2)) else (delta_Valid.j2 kj4 l0 x10_1 l0 (l0.length : Int) x10_1 (((rd_T56 l0 x10_1).f2).toList != ([] : List UInt8)) ((rd_T56 l0 x10_1).f0) ((rd_T56 l0 x10_1).f1) ((rd_T56 l0 x10_1).f2))) = some r := by rw [if_pos rfl] at H; exact H
                  clear H
                  have H := H1
                  clear H1
                  have HC10 := Aside0.mk H
                  clear H
                  go_upto_region 8 with (fail)
                  repeat (go_quiet (fail); go_upto_region 8 with (fail))
                  go_cut [27] (fun v27 wc => ∃ (kq : Nat) (x27_9 : Bool), v27 = .bool x27_9 ∧ Aside0 (delta_Valid.j2 kq l0 x10_1 l0 (l0.length : Int) x10_1 x27_9 ((rd_T56 l0 x10_1).f0) ((rd_T56 l0 x10_1).f1) ((rd_T56 l0 x10_1).f2) = some r) ∧ Aside0 (kq ≤ kj4) ∧ Aside0 (wc.heap[gb107]? = some (.cells #[.int .i64 ((rd_T56 l0 x10_1).f0), .int .i64 ((rd_T56 l0 x10_1).f1), .string ((rd_T56 l0 x10_1).f2)] 56 (0, 0))) ∧ Aside0 (Below w.heap.size w wc))
                  case first =>
                    have H := HC10.out
                    clear HC10
                    by_cases c11 : ((rd_T56 l0 x10_1).f1) < 1
                    · rw [if_pos c11] at H
                      have c11b0 : decide (((rd_T56 l0 x10_1).f1) < 1) = true := decide_eq_true c11
                      clear c11
                      (first | rw [c11b0] | (simp only [i64_w, i32_w]; rw [c11b0]) | skip)
                      have H' := Aside0.mk H
                      clear H
                      have hcz12_0 : wc.cell? ⟨gb107, 0, none⟩ = some (.int .i64 ((rd_T56 l0 x10_1).f0)) := (blk_cell BK107.out 0).trans rfl
                      have hcz12_1 : wc.cell? ⟨gb107, 1, none⟩ = some (.int .i64 ((rd_T56 l0 x10_1).f1)) := (blk_cell BK107.out 1).trans rfl
                      have hcz12_2 : wc.cell? ⟨gb107, 2, none⟩ = some (.string ((rd_T56 l0 x10_1).f2)) := (blk_cell BK107.out 2).trans rfl
                      have hfz12_0 := blk_frozen BK107.out 0
                      have hfz12_1 := blk_frozen BK107.out 1
                      have hfz12_2 := blk_frozen BK107.out 2
                      go_wp2
                      repeat (go_quiet (fail); try go_wp2)
                      go_meet
                      case rel => exact ⟨_, (true), (by first | rfl | (simp; done) | (simp [*]; done) | (simp; exact empN5 _)), H', ⟨by have := HK1.out; have := HJ4.out; first | omega | exact Nat.le_refl _⟩, ⟨by (with_reducible repeat (first | refine blk_drewN ?_ _ | refine blk_drew ?_ | refine blk_alloc ?_ _)); exact BK107.out⟩, ⟨by repeat (first | (with_reducible first | exact HB.out | apply below_alloc | apply pw_below_drewN | apply below_drew1 | refine below_set ?_ GE107.out) | exact HB.out)⟩⟩
                    · rw [if_neg c11] at H
                      have c11b0 : decide (((rd_T56 l0 x10_1).f1) < 1) = false := decide_eq_false c11
                      clear c11
                      (first | rw [c11b0] | (simp only [i64_w, i32_w]; rw [c11b0]) | skip)
                      have H' := Aside0.mk H
                      clear H
                      have hcz13_0 : wc.cell? ⟨gb107, 0, none⟩ = some (.int .i64 ((rd_T56 l0 x10_1).f0)) := (blk_cell BK107.out 0).trans rfl
                      have hcz13_1 : wc.cell? ⟨gb107, 1, none⟩ = some (.int .i64 ((rd_T56 l0 x10_1).f1)) := (blk_cell BK107.out 1).trans rfl
                      have hcz13_2 : wc.cell? ⟨gb107, 2, none⟩ = some (.string ((rd_T56 l0 x10_1).f2)) := (blk_cell BK107.out 2).trans rfl
                      have hfz13_0 := blk_frozen BK107.out 0
                      have hfz13_1 := blk_frozen BK107.out 1
                      have hfz13_2 := blk_frozen BK107.out 2
                      go_wp2
                      repeat (go_quiet (fail); try go_wp2)
                      go_meet
                      case rel => exact ⟨_, ((((rd_T56 l0 x10_1).f2).toList != ([] : List UInt8))), (by first | rfl | (simp; done) | (simp [*]; done) | (simp; exact empN5 _)), H', ⟨by have := HK1.out; have := HJ4.out; first | omega | exact Nat.le_refl _⟩, ⟨by (with_reducible repeat (first | refine blk_drewN ?_ _ | refine blk_drew ?_ | refine blk_alloc ?_ _)); exact BK107.out⟩, ⟨by repeat (first | (with_reducible first | exact HB.out | apply below_alloc | apply pw_below_drewN | apply below_drew1 | refine below_set ?_ GE107.out) | exact HB.out)⟩⟩
                  case rest =>
                    clear HC10
                    try clear c1
                    try clear p1
                    try clear q1
                    try clear hx1
                    try clear c2
                    try clear c2b0
                    try clear p2
                    try clear c3
                    try clear c3b0
                    try clear c4
                    try clear c4b0
                    try clear c8
                    try clear c8b0
                    try clear c8b1
                    try clear c9
                    try clear p10
                    try clear q10
                    try clear hx10
                    try clear c11
                    try clear c11b0
                    try clear hcz12_0
                    try clear hcz12_1
                    try clear hcz12_2
                    try clear hcz13_0
                    try clear hcz13_1
                    try clear hcz13_2
                    try clear hcz7_0
                    try clear hcz7_1
                    try clear hcz7_2
                    try clear hfz12_0
                    try clear hfz12_1
                    try clear hfz12_2
                    try clear hfz13_0
                    try clear hfz13_1
                    try clear hfz13_2
                    try clear hfz7_0
                    try clear hfz7_1
                    try clear hfz7_2
                    try clear hx106_0
                    try clear hx106_1
                    try clear hx106_2
                    try clear p1
                    try clear p106
                    try clear p2
                    try clear q1
                    try clear q106
                    obtain ⟨kq, x27_9, rfl, HA, HJ9, BK107, HB⟩ := hcut
                    cases kq with
                    | zero => exact absurd HA.out (by simp [delta_Valid.j2])
                    | succ kj9 =>
                      have H := HA.out
                      clear HA
                      simp only [delta_Valid.j2] at H
                      by_cases c14 : x27_9 = true
                      · subst c14
                        have H1 : (some false) = some r := by rw [if_pos rfl] at H; exact H
                        clear H
                        have H := H1
                        clear H1
                        obtain rfl := Option.some.inj H
                        go_wp2
                        repeat (go_quiet (fail); try go_wp2)
                        go_ret
                        exact ⟨by first | rfl | (simp [errW_none, errW_some] <;> rfl) | (simp [*, errW_none, errW_some] <;> rfl), by repeat (first | (with_reducible first | exact HB.out | apply below_alloc | apply pw_below_drewN | apply below_drew1 | refine below_set ?_ GE107.out) | exact HB.out)⟩
                      · replace c14 := Bool.eq_false_iff.mpr c14
                        subst c14
                        have H1 : (if x10_1 > 0 then (if 0 ≤ (wrap64 (x10_1 - 1)) then (if (wrap64 (x10_1 - 1)) < (l0.length : Int) then (if ((rd_T56 l0 (wrap64 (x10_1 - 1))).f0) = ((rd_T56 l0 x10_1).f0) then (some false) else (if ((rd_T56 l0 (wrap64 (x10_1 - 1))).f0) = 3 then (if ((rd_T56 l0 x10_1).f0) = 2 then (some false) else (delta_Valid.l0 kj9 l0 l0 (l0.length : Int) (wrap64 (x10_1 + 1)))) else (delta_Valid.l0 kj9 l0 l0 (l0.length : Int) (wrap64 (x10_1 + 1))))) else (none)) else (none)) else (delta_Valid.l0 kj9 l0 l0 (l0.length : Int) (wrap64 (x10_1 + 1)))) = some r := by rw [if_neg (show ¬ (false = true) by decide)] at H; exact H
                        clear H
                        have H := H1
                        clear H1
                        by_cases c15 : x10_1 > 0
                        · rw [if_pos c15] at H
                          have c15b0 : decide (0 < x10_1) = true := decide_eq_true c15
                          clear c15
                          obtain ⟨ji16, hji16⟩ : ∃ j_ : Int, (wrap64 (x10_1 - 1)) = j_ := ⟨_, rfl⟩
                          replace H : (if 0 ≤ (ji16) then (if (ji16) < (l0.length : Int) then (if ((rd_T56 l0 (ji16)).f0) = ((rd_T56 l0 x10_1).f0) then (some false) else (if ((rd_T56 l0 (ji16)).f0) = 3 then (if ((rd_T56 l0 x10_1).f0) = 2 then (some false) else (delta_Valid.l0 kj9 l0 l0 (l0.length : Int) (wrap64 (x10_1 + 1)))) else (delta_Valid.l0 kj9 l0 l0 (l0.length : Int) (wrap64 (x10_1 + 1))))) else (none)) else (none)) = some r := by first | (rw [hji16] at H; exact H) | (simp only [hji16] at H ⊢; exact H)
                          have hji16w : (IntKind.i64.wrap (x10_1 - 1)) = ji16 := (i64_w _).trans hji16
                          by_cases c17 : 0 ≤ (ji16)
                          · rw [if_pos c17] at H
                            have c17b0 : decide (0 ≤ (ji16)) = true := decide_eq_true c17
                            clear c17
                            by_cases c18 : (ji16) < (l0.length : Int)
                            · rw [if_pos c18] at H
                              have c18b0 : decide ((ji16) < (l0.length : Int)) = true := decide_eq_true c18
                              clear c18
                              by_cases c19 : ((rd_T56 l0 (ji16)).f0) = ((rd_T56 l0 x10_1).f0)
                              · rw [if_pos c19] at H
                                have c19b0 : (((rd_T56 l0 (ji16)).f0) == ((rd_T56 l0 x10_1).f0)) = true := beq_iff_eq.mpr c19
                                have c19b1 : (((rd_T56 l0 (ji16)).f0) != ((rd_T56 l0 x10_1).f0)) = false := bne_eq_false_iff_eq.mpr c19
                                clear c19
                                obtain rfl := Option.some.inj H
                                have p108 : 0 ≤ ((ji16) : Int) := of_decide_eq_true (by first | (with_reducible assumption) | assumption)
                                have q108 : (ji16) < (l0.length : Int) := of_decide_eq_true (by first | (with_reducible assumption) | assumption)
                                obtain ⟨ad108, e108, hx108_0, hx108_1, hx108_2⟩ := at_T56 HR0.out (ji16) p108 q108
                                obtain rfl : ad106 = ad108 := (by injection e108)
                                replace hx108_0 := (HB.out.cell (World.block_lt_of_cell? w _ hx108_0)).trans hx108_0
                                replace hx108_1 := (HB.out.cell (World.block_lt_of_cell? w _ hx108_1)).trans hx108_1
                                replace hx108_2 := (HB.out.cell (World.block_lt_of_cell? w _ hx108_2)).trans hx108_2
                                replace p108 := eq_true p108
                                replace q108 := eq_true q108
                                have hcz20_0 : wc.cell? ⟨gb107, 0, none⟩ = some (.int .i64 ((rd_T56 l0 x10_1).f0)) := (blk_cell BK107.out 0).trans rfl
                                have hcz20_1 : wc.cell? ⟨gb107, 1, none⟩ = some (.int .i64 ((rd_T56 l0 x10_1).f1)) := (blk_cell BK107.out 1).trans rfl
                                have hcz20_2 : wc.cell? ⟨gb107, 2, none⟩ = some (.string ((rd_T56 l0 x10_1).f2)) := (blk_cell BK107.out 2).trans rfl
                                have hfz20_0 := blk_frozen BK107.out 0
                                have hfz20_1 := blk_frozen BK107.out 1
                                have hfz20_2 := blk_frozen BK107.out 2
                                go_wp2
                                repeat (go_quiet (fail); try go_wp2)
                                go_ret
                                exact ⟨by first | rfl | (simp [errW_none, errW_some] <;> rfl) | (simp only [← hji16]; first | rfl | (simp [errW_none, errW_some] <;> rfl)) | (simp [*, errW_none, errW_some] <;> rfl), by repeat (first | (with_reducible first | exact HB.out | apply below_alloc | apply pw_below_drewN | apply below_drew1 | refine below_set ?_ GE107.out) | exact HB.out)⟩
                              · rw [if_neg c19] at H
                                have c19b0 : (((rd_T56 l0 (ji16)).f0) == ((rd_T56 l0 x10_1).f0)) = false := beq_eq_false_iff_ne.mpr c19
                                have c19b1 : (((rd_T56 l0 (ji16)).f0) != ((rd_T56 l0 x10_1).f0)) = true := bne_iff_ne.mpr c19
                                by_cases c21 : ((rd_T56 l0 (ji16)).f0) = 3
                                · rw [if_pos c21] at H
                                  have c21b0 : (((rd_T56 l0 (ji16)).f0) == 3) = true := beq_iff_eq.mpr c21
                                  have c21b1 : (((rd_T56 l0 (ji16)).f0) != 3) = false := bne_eq_false_iff_eq.mpr c21
                                  clear c21
                                  by_cases c22 : ((rd_T56 l0 x10_1).f0) = 2
                                  · rw [if_pos c22] at H
                                    have c22b0 : (((rd_T56 l0 x10_1).f0) == 2) = true := beq_iff_eq.mpr c22
                                    have c22b1 : (((rd_T56 l0 x10_1).f0) != 2) = false := bne_eq_false_iff_eq.mpr c22
                                    clear c22
                                    obtain rfl := Option.some.inj H
                                    have p108 : 0 ≤ ((ji16) : Int) := of_decide_eq_true (by first | (with_reducible assumption) | assumption)
                                    have q108 : (ji16) < (l0.length : Int) := of_decide_eq_true (by first | (with_reducible assumption) | assumption)
                                    obtain ⟨ad108, e108, hx108_0, hx108_1, hx108_2⟩ := at_T56 HR0.out (ji16) p108 q108
                                    obtain rfl : ad106 = ad108 := (by injection e108)
                                    replace hx108_0 := (HB.out.cell (World.block_lt_of_cell? w _ hx108_0)).trans hx108_0
                                    replace hx108_1 := (HB.out.cell (World.block_lt_of_cell? w _ hx108_1)).trans hx108_1
                                    replace hx108_2 := (HB.out.cell (World.block_lt_of_cell? w _ hx108_2)).trans hx108_2
                                    replace p108 := eq_true p108
                                    replace q108 := eq_true q108
                                    have hcz23_0 : wc.cell? ⟨gb107, 0, none⟩ = some (.int .i64 ((rd_T56 l0 x10_1).f0)) := (blk_cell BK107.out 0).trans rfl
                                    have hcz23_1 : wc.cell? ⟨gb107, 1, none⟩ = some (.int .i64 ((rd_T56 l0 x10_1).f1)) := (blk_cell BK107.out 1).trans rfl
                                    have hcz23_2 : wc.cell? ⟨gb107, 2, none⟩ = some (.string ((rd_T56 l0 x10_1).f2)) := (blk_cell BK107.out 2).trans rfl
                                    have hfz23_0 := blk_frozen BK107.out 0
                                    have hfz23_1 := blk_frozen BK107.out 1
                                    have hfz23_2 := blk_frozen BK107.out 2
                                    have p109 : 0 ≤ ((ji16) : Int) := of_decide_eq_true (by first | (with_reducible assumption) | assumption)
                                    have q109 : (ji16) < (l0.length : Int) := of_decide_eq_true (by first | (with_reducible assumption) | assumption)
                                    obtain ⟨ad109, e109, hx109_0, hx109_1, hx109_2⟩ := at_T56 HR0.out (ji16) p109 q109
                                    obtain rfl : ad106 = ad109 := (by injection e109)
                                    replace hx109_0 := (HB.out.cell (World.block_lt_of_cell? w _ hx109_0)).trans hx109_0
                                    replace hx109_1 := (HB.out.cell (World.block_lt_of_cell? w _ hx109_1)).trans hx109_1
                                    replace hx109_2 := (HB.out.cell (World.block_lt_of_cell? w _ hx109_2)).trans hx109_2
                                    replace p109 := eq_true p109
                                    replace q109 := eq_true q109
                                    go_wp2
                                    repeat (go_quiet (fail); try go_wp2)
                                    go_ret
                                    exact ⟨by first | rfl | (simp [errW_none, errW_some] <;> rfl) | (simp only [← hji16]; first | rfl | (simp [errW_none, errW_some] <;> rfl)) | (simp [*, errW_none, errW_some] <;> rfl), by repeat (first | (with_reducible first | exact HB.out | apply below_alloc | apply pw_below_drewN | apply below_drew1 | refine below_set ?_ GE107.out) | exact HB.out)⟩
                                  · rw [if_neg c22] at H
                                    have c22b0 : (((rd_T56 l0 x10_1).f0) == 2) = false := beq_eq_false_iff_ne.mpr c22
                                    have c22b1 : (((rd_T56 l0 x10_1).f0) != 2) = true := bne_iff_ne.mpr c22
                                    have H' := Aside0.mk H
                                    clear H
                                    have p108 : 0 ≤ ((ji16) : Int) := of_decide_eq_true (by first | (with_reducible assumption) | assumption)
                                    have q108 : (ji16) < (l0.length : Int) := of_decide_eq_true (by first | (with_reducible assumption) | assumption)
                                    obtain ⟨ad108, e108, hx108_0, hx108_1, hx108_2⟩ := at_T56 HR0.out (ji16) p108 q108
                                    obtain rfl : ad106 = ad108 := (by injection e108)
                                    replace hx108_0 := (HB.out.cell (World.block_lt_of_cell? w _ hx108_0)).trans hx108_0
                                    replace hx108_1 := (HB.out.cell (World.block_lt_of_cell? w _ hx108_1)).trans hx108_1
                                    replace hx108_2 := (HB.out.cell (World.block_lt_of_cell? w _ hx108_2)).trans hx108_2
                                    replace p108 := eq_true p108
                                    replace q108 := eq_true q108
                                    have hcz24_0 : wc.cell? ⟨gb107, 0, none⟩ = some (.int .i64 ((rd_T56 l0 x10_1).f0)) := (blk_cell BK107.out 0).trans rfl
                                    have hcz24_1 : wc.cell? ⟨gb107, 1, none⟩ = some (.int .i64 ((rd_T56 l0 x10_1).f1)) := (blk_cell BK107.out 1).trans rfl
                                    have hcz24_2 : wc.cell? ⟨gb107, 2, none⟩ = some (.string ((rd_T56 l0 x10_1).f2)) := (blk_cell BK107.out 2).trans rfl
                                    have hfz24_0 := blk_frozen BK107.out 0
                                    have hfz24_1 := blk_frozen BK107.out 1
                                    have hfz24_2 := blk_frozen BK107.out 2
                                    have p109 : 0 ≤ ((ji16) : Int) := of_decide_eq_true (by first | (with_reducible assumption) | assumption)
                                    have q109 : (ji16) < (l0.length : Int) := of_decide_eq_true (by first | (with_reducible assumption) | assumption)
                                    obtain ⟨ad109, e109, hx109_0, hx109_1, hx109_2⟩ := at_T56 HR0.out (ji16) p109 q109
                                    obtain rfl : ad106 = ad109 := (by injection e109)
                                    replace hx109_0 := (HB.out.cell (World.block_lt_of_cell? w _ hx109_0)).trans hx109_0
                                    replace hx109_1 := (HB.out.cell (World.block_lt_of_cell? w _ hx109_1)).trans hx109_1
                                    replace hx109_2 := (HB.out.cell (World.block_lt_of_cell? w _ hx109_2)).trans hx109_2
                                    replace p109 := eq_true p109
                                    replace q109 := eq_true q109
                                    go_wp2
                                    repeat (go_quiet (fail); try go_wp2)
                                    go_roundg kj9
                                    case measure => have := HK1.out; have := HJ4.out; have := HJ9.out; omega
                                    case rel => exact ⟨(wrap64 (x10_1 + 1)), (by first | rfl | (simp; done) | (simp [*]; done) | (simp; exact empN5 _)), H', ⟨by have := HK1.out; have := HJ4.out; have := HJ9.out; omega⟩, ⟨by repeat (first | (with_reducible first | exact HB.out | apply below_alloc | apply pw_below_drewN | apply below_drew1 | refine below_set ?_ GE107.out) | exact HB.out)⟩⟩
                                · rw [if_neg c21] at H
                                  have c21b0 : (((rd_T56 l0 (ji16)).f0) == 3) = false := beq_eq_false_iff_ne.mpr c21
                                  have c21b1 : (((rd_T56 l0 (ji16)).f0) != 3) = true := bne_iff_ne.mpr c21
                                  have H' := Aside0.mk H
                                  clear H
                                  have p108 : 0 ≤ ((ji16) : Int) := of_decide_eq_true (by first | (with_reducible assumption) | assumption)
                                  have q108 : (ji16) < (l0.length : Int) := of_decide_eq_true (by first | (with_reducible assumption) | assumption)
                                  obtain ⟨ad108, e108, hx108_0, hx108_1, hx108_2⟩ := at_T56 HR0.out (ji16) p108 q108
                                  obtain rfl : ad106 = ad108 := (by injection e108)
                                  replace hx108_0 := (HB.out.cell (World.block_lt_of_cell? w _ hx108_0)).trans hx108_0
                                  replace hx108_1 := (HB.out.cell (World.block_lt_of_cell? w _ hx108_1)).trans hx108_1
                                  replace hx108_2 := (HB.out.cell (World.block_lt_of_cell? w _ hx108_2)).trans hx108_2
                                  replace p108 := eq_true p108
                                  replace q108 := eq_true q108
                                  have hcz25_0 : wc.cell? ⟨gb107, 0, none⟩ = some (.int .i64 ((rd_T56 l0 x10_1).f0)) := (blk_cell BK107.out 0).trans rfl
                                  have hcz25_1 : wc.cell? ⟨gb107, 1, none⟩ = some (.int .i64 ((rd_T56 l0 x10_1).f1)) := (blk_cell BK107.out 1).trans rfl
                                  have hcz25_2 : wc.cell? ⟨gb107, 2, none⟩ = some (.string ((rd_T56 l0 x10_1).f2)) := (blk_cell BK107.out 2).trans rfl
                                  have hfz25_0 := blk_frozen BK107.out 0
                                  have hfz25_1 := blk_frozen BK107.out 1
                                  have hfz25_2 := blk_frozen BK107.out 2
                                  have p109 : 0 ≤ ((ji16) : Int) := of_decide_eq_true (by first | (with_reducible assumption) | assumption)
                                  have q109 : (ji16) < (l0.length : Int) := of_decide_eq_true (by first | (with_reducible assumption) | assumption)
                                  obtain ⟨ad109, e109, hx109_0, hx109_1, hx109_2⟩ := at_T56 HR0.out (ji16) p109 q109
                                  obtain rfl : ad106 = ad109 := (by injection e109)
                                  replace hx109_0 := (HB.out.cell (World.block_lt_of_cell? w _ hx109_0)).trans hx109_0
                                  replace hx109_1 := (HB.out.cell (World.block_lt_of_cell? w _ hx109_1)).trans hx109_1
                                  replace hx109_2 := (HB.out.cell (World.block_lt_of_cell? w _ hx109_2)).trans hx109_2
                                  replace p109 := eq_true p109
                                  replace q109 := eq_true q109
                                  go_wp2
                                  repeat (go_quiet (fail); try go_wp2)
                                  go_roundg kj9
                                  case measure => have := HK1.out; have := HJ4.out; have := HJ9.out; omega
                                  case rel => exact ⟨(wrap64 (x10_1 + 1)), (by first | rfl | (simp; done) | (simp [*]; done) | (simp; exact empN5 _)), H', ⟨by have := HK1.out; have := HJ4.out; have := HJ9.out; omega⟩, ⟨by repeat (first | (with_reducible first | exact HB.out | apply below_alloc | apply pw_below_drewN | apply below_drew1 | refine below_set ?_ GE107.out) | exact HB.out)⟩⟩
                            · rw [if_neg c18] at H
                              exact absurd H (by simp)
                          · rw [if_neg c17] at H
                            exact absurd H (by simp)
                        · rw [if_neg c15] at H
                          have c15b0 : decide (0 < x10_1) = false := decide_eq_false c15
                          clear c15
                          have H' := Aside0.mk H
                          clear H
                          go_wp2
                          repeat (go_quiet (fail); try go_wp2)
                          go_roundg kj9
                          case measure => have := HK1.out; have := HJ4.out; have := HJ9.out; omega
                          case rel => exact ⟨(wrap64 (x10_1 + 1)), (by first | rfl | (simp; done) | (simp [*]; done) | (simp; exact empN5 _)), H', ⟨by have := HK1.out; have := HJ4.out; have := HJ9.out; omega⟩, ⟨by repeat (first | (with_reducible first | exact HB.out | apply below_alloc | apply pw_below_drewN | apply below_drew1 | refine below_set ?_ GE107.out) | exact HB.out)⟩⟩
                · replace c9 := Bool.eq_false_iff.mpr c9
                  subst c9
                  have H1 : (if ((rd_T56 l0 x10_1).f0) = 2 then (if ((rd_T56 l0 x10_1).f1) = 0 then (delta_Valid.j3 kj4 l0 x10_1 l0 (l0.length : Int) x10_1 (((rd_T56 l0 x10_1).f2).toList == ([] : List UInt8)) ((rd_T56 l0 x10_1).f0) ((rd_T56 l0 x10_1).f1) ((rd_T56 l0 x10_1).f2)) else (delta_Valid.j3 kj4 l0 x10_1 l0 (l0.length : Int) x10_1 true ((rd_T56 l0 x10_1).f0) ((rd_T56 l0 x10_1).f1) ((rd_T56 l0 x10_1).f2))) else (some false)) = some r := by rw [if_neg (show ¬ (false = true) by decide)] at H; exact H
                  clear H
                  have H := H1
                  clear H1
                  by_cases c26 : ((rd_T56 l0 x10_1).f0) = 2
                  · rw [if_pos c26] at H
                    have c26b0 : (((rd_T56 l0 x10_1).f0) == 2) = true := beq_iff_eq.mpr c26
                    have c26b1 : (((rd_T56 l0 x10_1).f0) != 2) = false := bne_eq_false_iff_eq.mpr c26
                    clear c26
                    have HC27 := Aside0.mk H
                    clear H
                    go_upto_region 11 with (fail)
                    repeat (go_quiet (fail); go_upto_region 11 with (fail))
                    go_cut [37] (fun v37 wc => ∃ (kq : Nat) (x37_26 : Bool), v37 = .bool x37_26 ∧ Aside0 (delta_Valid.j3 kq l0 x10_1 l0 (l0.length : Int) x10_1 x37_26 ((rd_T56 l0 x10_1).f0) ((rd_T56 l0 x10_1).f1) ((rd_T56 l0 x10_1).f2) = some r) ∧ Aside0 (kq ≤ kj4) ∧ Aside0 (wc.heap[gb107]? = some (.cells #[.int .i64 ((rd_T56 l0 x10_1).f0), .int .i64 ((rd_T56 l0 x10_1).f1), .string ((rd_T56 l0 x10_1).f2)] 56 (0, 0))) ∧ Aside0 (Below w.heap.size w wc))
                    case first =>
                      have H := HC27.out
                      clear HC27
                      by_cases c28 : ((rd_T56 l0 x10_1).f1) = 0
                      · rw [if_pos c28] at H
                        have c28b0 : (((rd_T56 l0 x10_1).f1) == 0) = true := beq_iff_eq.mpr c28
                        have c28b1 : (((rd_T56 l0 x10_1).f1) != 0) = false := bne_eq_false_iff_eq.mpr c28
                        clear c28
                        (first | rw [c28b0] | (simp only [i64_w, i32_w]; rw [c28b0]) | skip)
                        have H' := Aside0.mk H
                        clear H
                        have hcz29_0 : wc.cell? ⟨gb107, 0, none⟩ = some (.int .i64 ((rd_T56 l0 x10_1).f0)) := (blk_cell BK107.out 0).trans rfl
                        have hcz29_1 : wc.cell? ⟨gb107, 1, none⟩ = some (.int .i64 ((rd_T56 l0 x10_1).f1)) := (blk_cell BK107.out 1).trans rfl
                        have hcz29_2 : wc.cell? ⟨gb107, 2, none⟩ = some (.string ((rd_T56 l0 x10_1).f2)) := (blk_cell BK107.out 2).trans rfl
                        have hfz29_0 := blk_frozen BK107.out 0
                        have hfz29_1 := blk_frozen BK107.out 1
                        have hfz29_2 := blk_frozen BK107.out 2
                        go_wp2
                        repeat (go_quiet (fail); try go_wp2)
                        go_meet
                        case rel => exact ⟨_, ((((rd_T56 l0 x10_1).f2).toList == ([] : List UInt8))), (by first | rfl | (simp; done) | (simp [*]; done) | (simp; exact empN5 _)), H', ⟨by have := HK1.out; have := HJ4.out; first | omega | exact Nat.le_refl _⟩, ⟨by (with_reducible repeat (first | refine blk_drewN ?_ _ | refine blk_drew ?_ | refine blk_alloc ?_ _)); exact BK107.out⟩, ⟨by repeat (first | (with_reducible first | exact HB.out | apply below_alloc | apply pw_below_drewN | apply below_drew1 | refine below_set ?_ GE107.out) | exact HB.out)⟩⟩
                      · rw [if_neg c28] at H
                        have c28b0 : (((rd_T56 l0 x10_1).f1) == 0) = false := beq_eq_false_iff_ne.mpr c28
                        have c28b1 : (((rd_T56 l0 x10_1).f1) != 0) = true := bne_iff_ne.mpr c28
                        (first | rw [c28b0] | (simp only [i64_w, i32_w]; rw [c28b0]) | skip)
                        have H' := Aside0.mk H
                        clear H
                        have hcz30_0 : wc.cell? ⟨gb107, 0, none⟩ = some (.int .i64 ((rd_T56 l0 x10_1).f0)) := (blk_cell BK107.out 0).trans rfl
                        have hcz30_1 : wc.cell? ⟨gb107, 1, none⟩ = some (.int .i64 ((rd_T56 l0 x10_1).f1)) := (blk_cell BK107.out 1).trans rfl
                        have hcz30_2 : wc.cell? ⟨gb107, 2, none⟩ = some (.string ((rd_T56 l0 x10_1).f2)) := (blk_cell BK107.out 2).trans rfl
                        have hfz30_0 := blk_frozen BK107.out 0
                        have hfz30_1 := blk_frozen BK107.out 1
                        have hfz30_2 := blk_frozen BK107.out 2
                        go_wp2
                        repeat (go_quiet (fail); try go_wp2)
                        go_meet
                        case rel => exact ⟨_, (true), (by first | rfl | (simp; done) | (simp [*]; done) | (simp; exact empN5 _)), H', ⟨by have := HK1.out; have := HJ4.out; first | omega | exact Nat.le_refl _⟩, ⟨by (with_reducible repeat (first | refine blk_drewN ?_ _ | refine blk_drew ?_ | refine blk_alloc ?_ _)); exact BK107.out⟩, ⟨by repeat (first | (with_reducible first | exact HB.out | apply below_alloc | apply pw_below_drewN | apply below_drew1 | refine below_set ?_ GE107.out) | exact HB.out)⟩⟩
                    case rest =>
                      clear HC27
                      try clear c1
                      try clear p1
                      try clear q1
                      try clear hx1
                      try clear c2
                      try clear c2b0
                      try clear p2
                      try clear c3
                      try clear c3b0
                      try clear c4
                      try clear c4b0
                      try clear p6
                      try clear c8
                      try clear c8b0
                      try clear c8b1
                      try clear c9
                      try clear p10
                      try clear q10
                      try clear hx10
                      try clear c11
                      try clear c11b0
                      try clear c14
                      try clear c15
                      try clear c15b0
                      try clear c17
                      try clear c17b0
                      try clear c18
                      try clear c18b0
                      try clear c19
                      try clear c19b0
                      try clear c19b1
                      try clear c21
                      try clear c21b0
                      try clear c21b1
                      try clear c22
                      try clear c22b0
                      try clear c22b1
                      try clear c26
                      try clear c26b0
                      try clear c26b1
                      try clear c28
                      try clear c28b0
                      try clear c28b1
                      try clear hcz12_0
                      try clear hcz12_1
                      try clear hcz12_2
                      try clear hcz13_0
                      try clear hcz13_1
                      try clear hcz13_2
                      try clear hcz20_0
                      try clear hcz20_1
                      try clear hcz20_2
                      try clear hcz23_0
                      try clear hcz23_1
                      try clear hcz23_2
                      try clear hcz24_0
                      try clear hcz24_1
                      try clear hcz24_2
                      try clear hcz25_0
                      try clear hcz25_1
                      try clear hcz25_2
                      try clear hcz29_0
                      try clear hcz29_1
                      try clear hcz29_2
                      try clear hcz30_0
                      try clear hcz30_1
                      try clear hcz30_2
                      try clear hcz7_0
                      try clear hcz7_1
                      try clear hcz7_2
                      try clear hfz12_0
                      try clear hfz12_1
                      try clear hfz12_2
                      try clear hfz13_0
                      try clear hfz13_1
                      try clear hfz13_2
                      try clear hfz20_0
                      try clear hfz20_1
                      try clear hfz20_2
                      try clear hfz23_0
                      try clear hfz23_1
                      try clear hfz23_2
                      try clear hfz24_0
                      try clear hfz24_1
                      try clear hfz24_2
                      try clear hfz25_0
                      try clear hfz25_1
                      try clear hfz25_2
                      try clear hfz29_0
                      try clear hfz29_1
                      try clear hfz29_2
                      try clear hfz30_0
                      try clear hfz30_1
                      try clear hfz30_2
                      try clear hfz7_0
                      try clear hfz7_1
                      try clear hfz7_2
                      try clear hx106_0
                      try clear hx106_1
                      try clear hx106_2
                      try clear hx108_0
                      try clear hx108_1
                      try clear hx108_2
                      try clear hx109_0
                      try clear hx109_1
                      try clear hx109_2
                      try clear p1
                      try clear p10
                      try clear p106
                      try clear p108
                      try clear p109
                      try clear p2
                      try clear q1
                      try clear q10
                      try clear q106
                      try clear q108
                      try clear q109
                      obtain ⟨kq, x37_26, rfl, HA, HJ26, BK107, HB⟩ := hcut
                      cases kq with
                      | zero => exact absurd HA.out (by simp [delta_Valid.j3])
                      | succ kj26 =>
                        have H := HA.out
                        clear HA
                        simp only [delta_Valid.j3] at H
                        by_cases c31 : x37_26 = true
                        · subst c31
                          have H1 : (some false) = some r := by rw [if_pos rfl] at H; exact H
                          clear H
                          have H := H1
                          clear H1
                          obtain rfl := Option.some.inj H
                          go_wp2
                          repeat (go_quiet (fail); try go_wp2)
                          go_ret
                          exact ⟨by first | rfl | (simp [errW_none, errW_some] <;> rfl) | (simp [*, errW_none, errW_some] <;> rfl), by repeat (first | (with_reducible first | exact HB.out | apply below_alloc | apply pw_below_drewN | apply below_drew1 | refine below_set ?_ GE107.out) | exact HB.out)⟩
                        · replace c31 := Bool.eq_false_iff.mpr c31
                          subst c31
                          have H1 : (if x10_1 > 0 then (if 0 ≤ (wrap64 (x10_1 - 1)) then (if (wrap64 (x10_1 - 1)) < (l0.length : Int) then (if ((rd_T56 l0 (wrap64 (x10_1 - 1))).f0) = ((rd_T56 l0 x10_1).f0) then (some false) else (if ((rd_T56 l0 (wrap64 (x10_1 - 1))).f0) = 3 then (if ((rd_T56 l0 x10_1).f0) = 2 then (some false) else (delta_Valid.l0 kj26 l0 l0 (l0.length : Int) (wrap64 (x10_1 + 1)))) else (delta_Valid.l0 kj26 l0 l0 (l0.length : Int) (wrap64 (x10_1 + 1))))) else (none)) else (none)) else (delta_Valid.l0 kj26 l0 l0 (l0.length : Int) (wrap64 (x10_1 + 1)))) = some r := by rw [if_neg (show ¬ (false = true) by decide)] at H; exact H
                          clear H
                          have H := H1
                          clear H1
                          by_cases c32 : x10_1 > 0
                          · rw [if_pos c32] at H
                            have c32b0 : decide (0 < x10_1) = true := decide_eq_true c32
                            clear c32
                            obtain ⟨ji33, hji33⟩ : ∃ j_ : Int, (wrap64 (x10_1 - 1)) = j_ := ⟨_, rfl⟩
                            replace H : (if 0 ≤ (ji33) then (if (ji33) < (l0.length : Int) then (if ((rd_T56 l0 (ji33)).f0) = ((rd_T56 l0 x10_1).f0) then (some false) else (if ((rd_T56 l0 (ji33)).f0) = 3 then (if ((rd_T56 l0 x10_1).f0) = 2 then (some false) else (delta_Valid.l0 kj26 l0 l0 (l0.length : Int) (wrap64 (x10_1 + 1)))) else (delta_Valid.l0 kj26 l0 l0 (l0.length : Int) (wrap64 (x10_1 + 1))))) else (none)) else (none)) = some r := by first | (rw [hji33] at H; exact H) | (simp only [hji33] at H ⊢; exact H)
                            have hji33w : (IntKind.i64.wrap (x10_1 - 1)) = ji33 := (i64_w _).trans hji33
                            by_cases c34 : 0 ≤ (ji33)
                            · rw [if_pos c34] at H
                              have c34b0 : decide (0 ≤ (ji33)) = true := decide_eq_true c34
                              clear c34
                              by_cases c35 : (ji33) < (l0.length : Int)
                              · rw [if_pos c35] at H
                                have c35b0 : decide ((ji33) < (l0.length : Int)) = true := decide_eq_true c35
                                clear c35
                                by_cases c36 : ((rd_T56 l0 (ji33)).f0) = ((rd_T56 l0 x10_1).f0)
                                · rw [if_pos c36] at H
                                  have c36b0 : (((rd_T56 l0 (ji33)).f0) == ((rd_T56 l0 x10_1).f0)) = true := beq_iff_eq.mpr c36
                                  have c36b1 : (((rd_T56 l0 (ji33)).f0) != ((rd_T56 l0 x10_1).f0)) = false := bne_eq_false_iff_eq.mpr c36
                                  clear c36
                                  obtain rfl := Option.some.inj H
                                  have p110 : 0 ≤ ((ji33) : Int) := of_decide_eq_true (by first | (with_reducible assumption) | assumption)
                                  have q110 : (ji33) < (l0.length : Int) := of_decide_eq_true (by first | (with_reducible assumption) | assumption)
                                  obtain ⟨ad110, e110, hx110_0, hx110_1, hx110_2⟩ := at_T56 HR0.out (ji33) p110 q110
                                  obtain rfl : ad106 = ad110 := (by injection e110)
                                  replace hx110_0 := (HB.out.cell (World.block_lt_of_cell? w _ hx110_0)).trans hx110_0
                                  replace hx110_1 := (HB.out.cell (World.block_lt_of_cell? w _ hx110_1)).trans hx110_1
                                  replace hx110_2 := (HB.out.cell (World.block_lt_of_cell? w _ hx110_2)).trans hx110_2
                                  replace p110 := eq_true p110
                                  replace q110 := eq_true q110
                                  have hcz37_0 : wc.cell? ⟨gb107, 0, none⟩ = some (.int .i64 ((rd_T56 l0 x10_1).f0)) := (blk_cell BK107.out 0).trans rfl
                                  have hcz37_1 : wc.cell? ⟨gb107, 1, none⟩ = some (.int .i64 ((rd_T56 l0 x10_1).f1)) := (blk_cell BK107.out 1).trans rfl
                                  have hcz37_2 : wc.cell? ⟨gb107, 2, none⟩ = some (.string ((rd_T56 l0 x10_1).f2)) := (blk_cell BK107.out 2).trans rfl
                                  have hfz37_0 := blk_frozen BK107.out 0
                                  have hfz37_1 := blk_frozen BK107.out 1
                                  have hfz37_2 := blk_frozen BK107.out 2
                                  go_wp2
                                  repeat (go_quiet (fail); try go_wp2)
                                  go_ret
                                  exact ⟨by first | rfl | (simp [errW_none, errW_some] <;> rfl) | (simp only [← hji33]; first | rfl | (simp [errW_none, errW_some] <;> rfl)) | (simp [*, errW_none, errW_some] <;> rfl), by repeat (first | (with_reducible first | exact HB.out | apply below_alloc | apply pw_below_drewN | apply below_drew1 | refine below_set ?_ GE107.out) | exact HB.out)⟩
                                · rw [if_neg c36] at H
                                  have c36b0 : (((rd_T56 l0 (ji33)).f0) == ((rd_T56 l0 x10_1).f0)) = false := beq_eq_false_iff_ne.mpr c36
                                  have c36b1 : (((rd_T56 l0 (ji33)).f0) != ((rd_T56 l0 x10_1).f0)) = true := bne_iff_ne.mpr c36
                                  by_cases c38 : ((rd_T56 l0 (ji33)).f0) = 3
                                  · rw [if_pos c38] at H
                                    have c38b0 : (((rd_T56 l0 (ji33)).f0) == 3) = true := beq_iff_eq.mpr c38
                                    have c38b1 : (((rd_T56 l0 (ji33)).f0) != 3) = false := bne_eq_false_iff_eq.mpr c38
                                    clear c38
                                    by_cases c39 : ((rd_T56 l0 x10_1).f0) = 2
                                    · rw [if_pos c39] at H
                                      have c39b0 : (((rd_T56 l0 x10_1).f0) == 2) = true := beq_iff_eq.mpr c39
                                      have c39b1 : (((rd_T56 l0 x10_1).f0) != 2) = false := bne_eq_false_iff_eq.mpr c39
                                      clear c39
                                      obtain rfl := Option.some.inj H
                                      have p110 : 0 ≤ ((ji33) : Int) := of_decide_eq_true (by first | (with_reducible assumption) | assumption)
                                      have q110 : (ji33) < (l0.length : Int) := of_decide_eq_true (by first | (with_reducible assumption) | assumption)
                                      obtain ⟨ad110, e110, hx110_0, hx110_1, hx110_2⟩ := at_T56 HR0.out (ji33) p110 q110
                                      obtain rfl : ad106 = ad110 := (by injection e110)
                                      replace hx110_0 := (HB.out.cell (World.block_lt_of_cell? w _ hx110_0)).trans hx110_0
                                      replace hx110_1 := (HB.out.cell (World.block_lt_of_cell? w _ hx110_1)).trans hx110_1
                                      replace hx110_2 := (HB.out.cell (World.block_lt_of_cell? w _ hx110_2)).trans hx110_2
                                      replace p110 := eq_true p110
                                      replace q110 := eq_true q110
                                      have hcz40_0 : wc.cell? ⟨gb107, 0, none⟩ = some (.int .i64 ((rd_T56 l0 x10_1).f0)) := (blk_cell BK107.out 0).trans rfl
                                      have hcz40_1 : wc.cell? ⟨gb107, 1, none⟩ = some (.int .i64 ((rd_T56 l0 x10_1).f1)) := (blk_cell BK107.out 1).trans rfl
                                      have hcz40_2 : wc.cell? ⟨gb107, 2, none⟩ = some (.string ((rd_T56 l0 x10_1).f2)) := (blk_cell BK107.out 2).trans rfl
                                      have hfz40_0 := blk_frozen BK107.out 0
                                      have hfz40_1 := blk_frozen BK107.out 1
                                      have hfz40_2 := blk_frozen BK107.out 2
                                      have p111 : 0 ≤ ((ji33) : Int) := of_decide_eq_true (by first | (with_reducible assumption) | assumption)
                                      have q111 : (ji33) < (l0.length : Int) := of_decide_eq_true (by first | (with_reducible assumption) | assumption)
                                      obtain ⟨ad111, e111, hx111_0, hx111_1, hx111_2⟩ := at_T56 HR0.out (ji33) p111 q111
                                      obtain rfl : ad106 = ad111 := (by injection e111)
                                      replace hx111_0 := (HB.out.cell (World.block_lt_of_cell? w _ hx111_0)).trans hx111_0
                                      replace hx111_1 := (HB.out.cell (World.block_lt_of_cell? w _ hx111_1)).trans hx111_1
                                      replace hx111_2 := (HB.out.cell (World.block_lt_of_cell? w _ hx111_2)).trans hx111_2
                                      replace p111 := eq_true p111
                                      replace q111 := eq_true q111
                                      go_wp2
                                      repeat (go_quiet (fail); try go_wp2)
                                      go_ret
                                      exact ⟨by first | rfl | (simp [errW_none, errW_some] <;> rfl) | (simp only [← hji33]; first | rfl | (simp [errW_none, errW_some] <;> rfl)) | (simp [*, errW_none, errW_some] <;> rfl), by repeat (first | (with_reducible first | exact HB.out | apply below_alloc | apply pw_below_drewN | apply below_drew1 | refine below_set ?_ GE107.out) | exact HB.out)⟩
                                    · rw [if_neg c39] at H
                                      have c39b0 : (((rd_T56 l0 x10_1).f0) == 2) = false := beq_eq_false_iff_ne.mpr c39
                                      have c39b1 : (((rd_T56 l0 x10_1).f0) != 2) = true := bne_iff_ne.mpr c39
                                      have H' := Aside0.mk H
                                      clear H
                                      have p110 : 0 ≤ ((ji33) : Int) := of_decide_eq_true (by first | (with_reducible assumption) | assumption)
                                      have q110 : (ji33) < (l0.length : Int) := of_decide_eq_true (by first | (with_reducible assumption) | assumption)
                                      obtain ⟨ad110, e110, hx110_0, hx110_1, hx110_2⟩ := at_T56 HR0.out (ji33) p110 q110
                                      obtain rfl : ad106 = ad110 := (by injection e110)
                                      replace hx110_0 := (HB.out.cell (World.block_lt_of_cell? w _ hx110_0)).trans hx110_0
                                      replace hx110_1 := (HB.out.cell (World.block_lt_of_cell? w _ hx110_1)).trans hx110_1
                                      replace hx110_2 := (HB.out.cell (World.block_lt_of_cell? w _ hx110_2)).trans hx110_2
                                      replace p110 := eq_true p110
                                      replace q110 := eq_true q110
                                      have hcz41_0 : wc.cell? ⟨gb107, 0, none⟩ = some (.int .i64 ((rd_T56 l0 x10_1).f0)) := (blk_cell BK107.out 0).trans rfl
                                      have hcz41_1 : wc.cell? ⟨gb107, 1, none⟩ = some (.int .i64 ((rd_T56 l0 x10_1).f1)) := (blk_cell BK107.out 1).trans rfl
                                      have hcz41_2 : wc.cell? ⟨gb107, 2, none⟩ = some (.string ((rd_T56 l0 x10_1).f2)) := (blk_cell BK107.out 2).trans rfl
                                      have hfz41_0 := blk_frozen BK107.out 0
                                      have hfz41_1 := blk_frozen BK107.out 1
                                      have hfz41_2 := blk_frozen BK107.out 2
                                      have p111 : 0 ≤ ((ji33) : Int) := of_decide_eq_true (by first | (with_reducible assumption) | assumption)
                                      have q111 : (ji33) < (l0.length : Int) := of_decide_eq_true (by first | (with_reducible assumption) | assumption)
                                      obtain ⟨ad111, e111, hx111_0, hx111_1, hx111_2⟩ := at_T56 HR0.out (ji33) p111 q111
                                      obtain rfl : ad106 = ad111 := (by injection e111)
                                      replace hx111_0 := (HB.out.cell (World.block_lt_of_cell? w _ hx111_0)).trans hx111_0
                                      replace hx111_1 := (HB.out.cell (World.block_lt_of_cell? w _ hx111_1)).trans hx111_1
                                      replace hx111_2 := (HB.out.cell (World.block_lt_of_cell? w _ hx111_2)).trans hx111_2
                                      replace p111 := eq_true p111
                                      replace q111 := eq_true q111
                                      go_wp2
                                      repeat (go_quiet (fail); try go_wp2)
                                      go_roundg kj26
                                      case measure => have := HK1.out; have := HJ4.out; have := HJ26.out; omega
                                      case rel => exact ⟨(wrap64 (x10_1 + 1)), (by first | rfl | (simp; done) | (simp [*]; done) | (simp; exact empN5 _)), H', ⟨by have := HK1.out; have := HJ4.out; have := HJ26.out; omega⟩, ⟨by repeat (first | (with_reducible first | exact HB.out | apply below_alloc | apply pw_below_drewN | apply below_drew1 | refine below_set ?_ GE107.out) | exact HB.out)⟩⟩
                                  · rw [if_neg c38] at H
                                    have c38b0 : (((rd_T56 l0 (ji33)).f0) == 3) = false := beq_eq_false_iff_ne.mpr c38
                                    have c38b1 : (((rd_T56 l0 (ji33)).f0) != 3) = true := bne_iff_ne.mpr c38
                                    have H' := Aside0.mk H
                                    clear H
                                    have p110 : 0 ≤ ((ji33) : Int) := of_decide_eq_true (by first | (with_reducible assumption) | assumption)
                                    have q110 : (ji33) < (l0.length : Int) := of_decide_eq_true (by first | (with_reducible assumption) | assumption)
                                    obtain ⟨ad110, e110, hx110_0, hx110_1, hx110_2⟩ := at_T56 HR0.out (ji33) p110 q110
                                    obtain rfl : ad106 = ad110 := (by injection e110)
                                    replace hx110_0 := (HB.out.cell (World.block_lt_of_cell? w _ hx110_0)).trans hx110_0
                                    replace hx110_1 := (HB.out.cell (World.block_lt_of_cell? w _ hx110_1)).trans hx110_1
                                    replace hx110_2 := (HB.out.cell (World.block_lt_of_cell? w _ hx110_2)).trans hx110_2
                                    replace p110 := eq_true p110
                                    replace q110 := eq_true q110
                                    have hcz42_0 : wc.cell? ⟨gb107, 0, none⟩ = some (.int .i64 ((rd_T56 l0 x10_1).f0)) := (blk_cell BK107.out 0).trans rfl
                                    have hcz42_1 : wc.cell? ⟨gb107, 1, none⟩ = some (.int .i64 ((rd_T56 l0 x10_1).f1)) := (blk_cell BK107.out 1).trans rfl
                                    have hcz42_2 : wc.cell? ⟨gb107, 2, none⟩ = some (.string ((rd_T56 l0 x10_1).f2)) := (blk_cell BK107.out 2).trans rfl
                                    have hfz42_0 := blk_frozen BK107.out 0
                                    have hfz42_1 := blk_frozen BK107.out 1
                                    have hfz42_2 := blk_frozen BK107.out 2
                                    have p111 : 0 ≤ ((ji33) : Int) := of_decide_eq_true (by first | (with_reducible assumption) | assumption)
                                    have q111 : (ji33) < (l0.length : Int) := of_decide_eq_true (by first | (with_reducible assumption) | assumption)
                                    obtain ⟨ad111, e111, hx111_0, hx111_1, hx111_2⟩ := at_T56 HR0.out (ji33) p111 q111
                                    obtain rfl : ad106 = ad111 := (by injection e111)
                                    replace hx111_0 := (HB.out.cell (World.block_lt_of_cell? w _ hx111_0)).trans hx111_0
                                    replace hx111_1 := (HB.out.cell (World.block_lt_of_cell? w _ hx111_1)).trans hx111_1
                                    replace hx111_2 := (HB.out.cell (World.block_lt_of_cell? w _ hx111_2)).trans hx111_2
                                    replace p111 := eq_true p111
                                    replace q111 := eq_true q111
                                    go_wp2
                                    repeat (go_quiet (fail); try go_wp2)
                                    go_roundg kj26
                                    case measure => have := HK1.out; have := HJ4.out; have := HJ26.out; omega
                                    case rel => exact ⟨(wrap64 (x10_1 + 1)), (by first | rfl | (simp; done) | (simp [*]; done) | (simp; exact empN5 _)), H', ⟨by have := HK1.out; have := HJ4.out; have := HJ26.out; omega⟩, ⟨by repeat (first | (with_reducible first | exact HB.out | apply below_alloc | apply pw_below_drewN | apply below_drew1 | refine below_set ?_ GE107.out) | exact HB.out)⟩⟩
                              · rw [if_neg c35] at H
                                exact absurd H (by simp)
                            · rw [if_neg c34] at H
                              exact absurd H (by simp)
                          · rw [if_neg c32] at H
                            have c32b0 : decide (0 < x10_1) = false := decide_eq_false c32
                            clear c32
                            have H' := Aside0.mk H
                            clear H
                            go_wp2
                            repeat (go_quiet (fail); try go_wp2)
                            go_roundg kj26
                            case measure => have := HK1.out; have := HJ4.out; have := HJ26.out; omega
                            case rel => exact ⟨(wrap64 (x10_1 + 1)), (by first | rfl | (simp; done) | (simp [*]; done) | (simp; exact empN5 _)), H', ⟨by have := HK1.out; have := HJ4.out; have := HJ26.out; omega⟩, ⟨by repeat (first | (with_reducible first | exact HB.out | apply below_alloc | apply pw_below_drewN | apply below_drew1 | refine below_set ?_ GE107.out) | exact HB.out)⟩⟩
                  · rw [if_neg c26] at H
                    have c26b0 : (((rd_T56 l0 x10_1).f0) == 2) = false := beq_eq_false_iff_ne.mpr c26
                    have c26b1 : (((rd_T56 l0 x10_1).f0) != 2) = true := bne_iff_ne.mpr c26
                    obtain rfl := Option.some.inj H
                    go_wp2
                    repeat (go_quiet (fail); try go_wp2)
                    go_ret
                    exact ⟨by first | rfl | (simp [errW_none, errW_some] <;> rfl) | (simp [*, errW_none, errW_some] <;> rfl), by repeat (first | (with_reducible first | exact HB.out | apply below_alloc | apply pw_below_drewN | apply below_drew1 | refine below_set ?_ GE107.out) | exact HB.out)⟩
          · rw [if_neg c4] at H
            exact absurd H (by simp)
        · rw [if_neg c3] at H
          exact absurd H (by simp)
      · rw [if_neg c2] at H
        have c2b0 : decide (x10_1 < (l0.length : Int)) = false := decide_eq_false c2
        clear c2
        replace H := Option.bind_eq_some_iff.mp H
        obtain ⟨⟨t103, t104, t105⟩, A430, H⟩ := H
        replace H : (some t105) = some r := H
        have A43 := Aside0.mk A430
        clear A430
        obtain rfl := Option.some.inj H
        go_wp2_with (first | (go_at_call 46; (with_reducible refine (delta_lens.calls k1 _ _ l0 t103 t104 t105 _ ?side1 ?side2 A43.out).mono ?_); (case side1 => repeat (first | exact (Kd.C_below HR0.out HB.out) | (with_reducible refine Kd.C_alloc ?_ _) | (with_reducible refine Kd.C_drewN ?_ _) | (with_reducible refine Kd.C_drew ?_))); (case side2 => exact HC0.out); rintro e w44 ⟨rfl, hb⟩; have n0_ := Aside0.mk (below_step (by repeat (first | (with_reducible first | exact HB.out | apply below_alloc | apply pw_below_drewN | apply below_drew1) | exact HB.out)) hb); clear HB; have HB := n0_; clear n0_; (try clear hb); (try clear hb2); (try clear hk); (try clear hi)))
        repeat (go_quiet (first | (go_at_call 46; (with_reducible refine (delta_lens.calls k1 _ _ l0 t103 t104 t105 _ ?side1 ?side2 A43.out).mono ?_); (case side1 => repeat (first | exact (Kd.C_below HR0.out HB.out) | (with_reducible refine Kd.C_alloc ?_ _) | (with_reducible refine Kd.C_drewN ?_ _) | (with_reducible refine Kd.C_drew ?_))); (case side2 => exact HC0.out); rintro e w44 ⟨rfl, hb⟩; have n0_ := Aside0.mk (below_step (by repeat (first | (with_reducible first | exact HB.out | apply below_alloc | apply pw_below_drewN | apply below_drew1) | exact HB.out)) hb); clear HB; have HB := n0_; clear n0_; (try clear hb); (try clear hb2); (try clear hk); (try clear hi))); try go_wp2_with (first | (go_at_call 46; (with_reducible refine (delta_lens.calls k1 _ _ l0 t103 t104 t105 _ ?side1 ?side2 A43.out).mono ?_); (case side1 => repeat (first | exact (Kd.C_below HR0.out HB.out) | (with_reducible refine Kd.C_alloc ?_ _) | (with_reducible refine Kd.C_drewN ?_ _) | (with_reducible refine Kd.C_drew ?_))); (case side2 => exact HC0.out); rintro e w44 ⟨rfl, hb⟩; have n0_ := Aside0.mk (below_step (by repeat (first | (with_reducible first | exact HB.out | apply below_alloc | apply pw_below_drewN | apply below_drew1) | exact HB.out)) hb); clear HB; have HB := n0_; clear n0_; (try clear hb); (try clear hb2); (try clear hk); (try clear hi))))
        go_ret
        exact ⟨by first | rfl | (simp [errW_none, errW_some] <;> rfl) | (simp [*, errW_none, errW_some] <;> rfl), by repeat (first | (with_reducible first | exact HB.out | apply below_alloc | apply pw_below_drewN | apply below_drew1) | exact HB.out)⟩

end Go.Proofs.Ytjladdjpnicldaa.PA
