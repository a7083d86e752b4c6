/- The lists of no object; the statement RangesNil, walked: it answers true. Conditions: the delta's operations and texts are such as there are. -/
import Derived.Test.YtjladdjpnicldaaAwake
import Derived.Test.YtjladdjpnicldaaGDrop
import Derived.Test.YtjladdjpnicldaaPAx6
namespace Go.Proofs.Ytjladdjpnicldaa.PA
open Go.RowKit Go.Maps Go.Proofs.YtjladdjpnicldaaW.PrintWords Go.Proofs.YtjladdjpnicldaaW.PrintLast Go.Proofs.YtjladdjpnicldaaW.PrintMore

set_option maxHeartbeats 1000000 in
set_option maxRecDepth 100000 in
theorem list_nil (w : World) : Calls Try.prog 17 #[.pointer none] w fun e w' => e = .returned (.slice none 0 0) ∧ w' = w := by
  go_enter Try.func17, Try.ntmps17
  go_wp2_with fail
  go_ret
  exact ⟨rfl, rfl⟩
set_option maxHeartbeats 1000000 in
set_option maxRecDepth 100000 in
theorem over_nil (lo hi : Int) (w : World) : Calls Try.prog 18 #[.pointer none, .int .i64 lo, .int .i64 hi] w fun e w' => e = .returned (.slice none 0 0) ∧ w' = w := by
  go_enter Try.func18, Try.ntmps18
  go_wp2_with fail
  refine (list_nil w).mono ?_
  rintro e W1 ⟨rfl, rfl⟩
  go_wp2_with fail
  refine wp_loop_rounds 1 ?_
  rw [rounds_succ]
  go_wp2_with fail
  go_ret
  exact ⟨rfl, rfl⟩
set_option maxHeartbeats 1000000 in
set_option maxRecDepth 100000 in
theorem cover_nil (w : World) : Calls Try.prog 19 #[.pointer none] w fun e w' => e = .returned (.slice none 0 0) ∧ w' = w := by
  go_enter Try.func19, Try.ntmps19
  go_wp2_with fail
  refine (list_nil w).mono ?_
  rintro e W1 ⟨rfl, rfl⟩
  go_wp2_with fail
  refine wp_loop_rounds 1 ?_
  rw [rounds_succ]
  go_wp2_with fail
  go_ret
  exact ⟨rfl, rfl⟩

set_option maxHeartbeats 1000000 in
set_option maxRecDepth 100000 in
theorem len_nil0 (w : World) : Calls Try.prog 16 #[.pointer none] w fun e w' => e = .returned (.int .i64 0) ∧ w' = w := by
  go_enter Try.func16, Try.ntmps16
  go_wp2_with fail
  go_ret
  exact ⟨rfl, rfl⟩
theorem copy_some (l : List S56) (h : l.length < 4398046511104) : galleyref13_Copy.f l = some l := by
  unfold galleyref13_Copy.f
  simp only [Option.bind_some, List.length_nil, Nat.zero_add, List.nil_append]
  rw [if_pos h]

set_option maxHeartbeats 4000000 in
set_option maxRecDepth 100000 in
theorem rangesNil_walk (x : S24) (A : Option Addr) (c : Nat) (l : List S56) (w : World) (hr : Kd.C k56 w A l.length l) (hc : l.length ≤ c) (hl : l.length < 4398046511104) :
    Calls Try.prog 3 #[encR x, .slice A l.length c] w fun e w' => e = .returned (.bool true) ∧ Below w.heap.size w w' := by
  obtain ⟨x0, x1, x2, x3, x4⟩ := x
  unfold encR
  have HR := Aside0.mk hr
  clear hr
  go_enter Try.func3, Try.ntmps3
  go_wp2_with fail
  refine (awake_walk _).mono ?_
  rintro e W1 ⟨rfl, B1⟩
  have hB1 := below_then (below_alloc (Below.refl w.heap.size w) (.cells #[.string x0, .int .i64 x1, .int .i64 x2, .int .i64 x3, .int .i64 x4] 24)) (by simp) B1
  have hx1 : W1.heap[w.heap.size]? = some (.cells #[.string x0, .int .i64 x1, .int .i64 x2, .int .i64 x3, .int .i64 x4] 24 (0, 0)) := (B1.block _ (by simp)).trans (MapKept.heap_alloc w _).1
  have z0 := (blk_cell hx1 0).trans rfl
  have z1 := (blk_cell hx1 1).trans rfl
  have z2 := (blk_cell hx1 2).trans rfl
  have z3 := (blk_cell hx1 3).trans rfl
  have z4 := (blk_cell hx1 4).trans rfl
  have HB1 := Aside0.mk hB1
  have HX1 := Aside0.mk hx1
  clear B1 hB1 hx1
  go_wp2_with fail
  refine (set_nil ⟨x0, x1, x2, x3, x4⟩ W1).mono ?_
  rintro e W2 ⟨rfl, B2⟩
  have HX2 := Aside0.mk ((B2.block _ (blk_lt HX1.out)).trans HX1.out)
  have HB2 := Aside0.mk (below_then HB1.out HB1.out.size B2)
  clear B2 z0 z1 z2 z3 z4
  have z0 := (blk_cell HX2.out 0).trans rfl
  go_wp2_with fail
  refine (drop_nil x0 W2).mono ?_
  rintro e W3 ⟨rfl, B3⟩
  have HX3 := Aside0.mk ((B3.block _ (blk_lt HX2.out)).trans HX2.out)
  have HB3 := Aside0.mk (below_then HB2.out HB2.out.size B3)
  clear B3 z0
  go_wp2_with fail
  refine (galleyref13_Copy.calls A c l l W3 (Kd.C_below HR.out HB3.out) hc (copy_some l hl)).mono ?_
  rintro e W4 ⟨v4, rfl, hv4, B4⟩
  have HX4 := Aside0.mk ((B4.block _ (blk_lt HX3.out)).trans HX3.out)
  have HB4 := Aside0.mk (below_then HB3.out HB3.out.size B4)
  obtain ⟨A4, c4, rfl⟩ := Kd.R_slice hv4
  clear B4 hv4
  go_wp2_with fail
  refine (behind_nil A4 l.length c4 W4).mono ?_
  rintro e W5 ⟨rfl, B5⟩
  have HX5 := Aside0.mk ((B5.block _ (blk_lt HX4.out)).trans HX4.out)
  have HB5 := Aside0.mk (below_then HB4.out HB4.out.size B5)
  clear B5
  have z0 := (blk_cell HX5.out 0).trans rfl
  go_wp2_with fail
  refine (get_nil x0 W5).mono ?_
  rintro e W6 ⟨rfl, B6⟩
  have HX6 := Aside0.mk ((B6.block _ (blk_lt HX5.out)).trans HX5.out)
  have HB6 := Aside0.mk (below_then HB5.out HB5.out.size B6)
  clear B6 z0
  have z1 := cell_later ((blk_cell HX6.out 1).trans rfl) (.cells #[.string ⟨#[]⟩, .int .i64 0, .int .i64 0, .int .i64 0, .int .i64 0] 24)
  have z2 := cell_later ((blk_cell HX6.out 2).trans rfl) (.cells #[.string ⟨#[]⟩, .int .i64 0, .int .i64 0, .int .i64 0, .int .i64 0] 24)
  unfold encR z24
  go_wp2_with fail
  refine (len_nil0 _).mono ?_
  rintro e W7 ⟨rfl, rfl⟩
  go_wp2_with fail
  refine (list_nil _).mono ?_
  rintro e W7 ⟨rfl, rfl⟩
  go_wp2_with fail
  refine (over_nil x1 x2 _).mono ?_
  rintro e W7 ⟨rfl, rfl⟩
  go_wp2_with fail
  refine (cover_nil _).mono ?_
  rintro e W7 ⟨rfl, rfl⟩
  go_wp2_with fail
  go_ret
  exact ⟨rfl, below_alloc HB6.out _⟩
end Go.Proofs.Ytjladdjpnicldaa.PA
