/- The statement RangesHolds, walked where a call refuses: it answers true. -/
import Derived.Test.YtjladdjpnicldaaAwake
import Derived.Test.YtjladdjpnicldaaPAx6
namespace Go.Proofs.Ytjladdjpnicldaa.PA
open Go.RowKit Go.Maps Go.Proofs.YtjladdjpnicldaaW.PrintWords Go.Proofs.YtjladdjpnicldaaW.PrintLast Go.Proofs.YtjladdjpnicldaaW.PrintMore

theorem copy_some' (l : List S56) (h : l.length < 4398046511104) : galleyref13_Copy.f l = some l := by
  unfold galleyref13_Copy.f
  simp only [Option.bind_some, List.length_nil, Nat.zero_add, List.nil_append]
  rw [if_pos h]
theorem place_any (d : List S56) (hs : Sane d) (p g : Int) : ∃ r : Int × Int, shift_Place.f (6 * d.length + 4) d p g = some r := by
  cases hv : validV d with
  | false =>
    refine ⟨(0, 130), ?_⟩
    unfold shift_Place.f
    rw [lensF_tells d hs _ (by omega), hv]
    rfl
  | true =>
    obtain ⟨-, ft, hft, -⟩ := seen_of_valid hv
    by_cases c : 0 ≤ p ∧ p ≤ ((sumsV 0 0 d).getD (0, 0)).1 ∧ (g = 1 ∨ g = 2)
    · exact ⟨_, place_tells d hs hv p g c.1 c.2.1 c.2.2 _ (by omega)⟩
    · refine ⟨(0, 2), ?_⟩
      unfold shift_Place.f
      rw [lensF_tells d hs _ (by omega), hv]
      simp only [Option.bind_some, if_true]
      have hj : shift_Place.j0 (6 * d.length + 4) d p g true = some (0, 2) := by
        simp only [shift_Place.j0]
        rw [if_pos trivial]
      by_cases c1 : p < 0
      · rw [if_pos c1]; exact hj
      · rw [if_neg c1]
        by_cases c2 : p > ((sumsV 0 0 d).getD (0, 0)).1
        · rw [if_pos c2]; exact hj
        · rw [if_neg c2, if_neg (fun e => c ⟨by omega, by omega, .inl e⟩)]
          have : (g != 2) = true := bne_iff_ne.2 (fun e => c ⟨by omega, by omega, .inr e⟩)
          rw [this]; exact hj

set_option maxHeartbeats 4000000 in
set_option maxRecDepth 100000 in
theorem holds_new (n : Int) (x : S24) (A : Option Addr) (c : Nat) (l : List S56) (w : World) (h : n < 0 ∨ 268435456 < n) :
    Calls Try.prog 5 #[.int .i64 n, encR x, .slice A l.length c] w fun e w' => e = .returned (.bool true) ∧ Below w.heap.size w w' := by
  obtain ⟨x0, x1, x2, x3, x4⟩ := x
  unfold encR
  have HH := Aside0.mk h
  clear h
  go_enter Try.func5, Try.ntmps5
  go_wp2_with fail
  refine (awake_walk _).mono ?_
  rintro e W1 ⟨rfl, B1⟩
  have HB1 := Aside0.mk (below_then (below_alloc (Below.refl w.heap.size w) (.cells #[.string x0, .int .i64 x1, .int .i64 x2, .int .i64 x3, .int .i64 x4] 24)) (by simp) B1)
  clear B1
  go_wp2_with fail
  refine (new_bad n W1 HH.out).mono ?_
  rintro e W2 ⟨rfl, B2⟩
  have HB2 := Aside0.mk (below_then HB1.out HB1.out.size B2)
  clear B2
  go_wp2_with fail
  go_ret
  exact ⟨rfl, HB2.out⟩

/-- Set on no rows, its refusals together -/
theorem set_refuses (x : S24) (w : World) (b : Nat) (n : Int) (h : RObj w b n []) (he : setE n [] x ≠ 0) :
    Calls Try.prog 11 #[.pointer (some ⟨b, 0, none⟩), encR x] w fun e w' => e = .returned (.tuple #[.pointer none, .int .i64 (setE n [] x)]) ∧ Below w.heap.size w w' := by
  unfold setE at he ⊢
  by_cases c1 : x.f0.size = 0 ∨ 64 < x.f0.size
  · rw [if_pos c1]
    exact set_name x w _ c1
  · rw [if_neg c1] at he ⊢
    by_cases c2 : x.f1 < 0 ∨ x.f1 ≥ x.f2 ∨ x.f2 > n ∨ gravV x.f3 = false ∨ gravV x.f4 = false
    · rw [if_pos c2]
      exact set_range x w b n [] h c1 c2
    · rw [if_neg c2, if_neg (by simp)] at he
      exact absurd rfl he

set_option maxHeartbeats 4000000 in
set_option maxRecDepth 100000 in
theorem holds_set (n : Int) (x : S24) (A : Option Addr) (c : Nat) (l : List S56) (w : World) (h0 : 0 ≤ n) (h1 : n ≤ 268435456) (he : setE n [] x ≠ 0) :
    Calls Try.prog 5 #[.int .i64 n, encR x, .slice A l.length c] w fun e w' => e = .returned (.bool true) ∧ Below w.heap.size w w' := by
  have hc0 := fun W b o => Aside0.mk (set_refuses x W b n o he)
  have d1 : (setE n [] x != 0) = true := bne_iff_ne.2 he
  generalize setE n [] x = er at hc0 d1
  clear he
  obtain ⟨x0, x1, x2, x3, x4⟩ := x
  unfold encR at hc0 ⊢
  simp only at hc0 ⊢
  have HC := Aside0.mk hc0
  clear hc0
  go_enter Try.func5, Try.ntmps5
  go_wp2_with fail
  refine (awake_walk _).mono ?_
  rintro e W1 ⟨rfl, B1⟩
  have HB1 := Aside0.mk (below_then (below_alloc (Below.refl w.heap.size w) (.cells #[.string x0, .int .i64 x1, .int .i64 x2, .int .i64 x3, .int .i64 x4] 24)) (by simp) B1)
  have HX1 := Aside0.mk ((B1.block _ (by simp)).trans (MapKept.heap_alloc w (.cells #[.string x0, .int .i64 x1, .int .i64 x2, .int .i64 x3, .int .i64 x4] 24)).1)
  clear B1
  go_wp2_with fail
  refine (new_ok n W1 h0 h1).mono ?_
  rintro e W2 ⟨b2, rfl, o2, B2⟩
  have HB2 := Aside0.mk (below_then HB1.out HB1.out.size B2)
  have hx2 := (B2.block _ (blk_lt HX1.out)).trans HX1.out
  have z0 := (blk_cell hx2 0).trans rfl
  have z1 := (blk_cell hx2 1).trans rfl
  have z2 := (blk_cell hx2 2).trans rfl
  have z3 := (blk_cell hx2 3).trans rfl
  have z4 := (blk_cell hx2 4).trans rfl
  have HO2 := Aside0.mk o2
  clear B2 o2 hx2
  go_wp2_with fail
  refine (HC.out W2 b2 HO2.out).out.mono ?_
  rintro e W3 ⟨rfl, B3⟩
  have HB3 := Aside0.mk (below_then HB2.out HB2.out.size B3)
  clear B3
  go_wp2_with fail
  go_ret
  exact ⟨rfl, HB3.out⟩

/-- what the law's first calls answer where the delta is refused -/
theorem behind_refuses (A : Option Addr) (c : Nat) (l : List S56) (w : World) (b : Nat) (n : Int) (rows : List S24) (h : RObj w b n rows) (hr : Kd.C k56 w A l.length l) (hc : l.length ≤ c) (hs : Sane l) (hv : validV l = false ∨ ((sumsV 0 0 l).getD (0, 0)).1 ≠ n) :
    ∃ er : Int, er ≠ 0 ∧ Calls Try.prog 13 #[.pointer (some ⟨b, 0, none⟩), .slice A l.length c] w fun e w' => e = .returned (.tuple #[.pointer none, .slice none 0 0, .int .i64 er]) ∧ Below w.heap.size w w' := by
  cases hb : validV l with
  | false => exact ⟨130, by decide, behind_bad A c l w _ hr hc hs hb⟩
  | true =>
    rcases hv with hv | hv
    · rw [hb] at hv; cases hv
    · exact ⟨131, by decide, behind_fit A c l w b n rows h hr hc hs hb hv⟩

set_option maxHeartbeats 8000000 in
set_option maxRecDepth 100000 in
theorem holds_err (n : Int) (x : S24) (A : Option Addr) (c : Nat) (l : List S56) (w : World) (h0 : 0 ≤ n) (h1 : n ≤ 268435456) (he : setE n [] x = 0) (hr : Kd.C k56 w A l.length l) (hc : l.length ≤ c) (hl : l.length < 4398046511104) (hs : Sane l) (hv : validV l = false ∨ ((sumsV 0 0 l).getD (0, 0)).1 ≠ n) :
    Calls Try.prog 5 #[.int .i64 n, encR x, .slice A l.length c] w fun e w' => e = .returned (.bool true) ∧ Below w.heap.size w w' := by
  have hc1 : ¬ (x.f0.size = 0 ∨ 64 < x.f0.size) := fun h => by unfold setE at he; rw [if_pos h] at he; cases he
  have hc2 : ¬ (x.f1 < 0 ∨ x.f1 ≥ x.f2 ∨ x.f2 > n ∨ gravV x.f3 = false ∨ gravV x.f4 = false) := fun h => by unfold setE at he; rw [if_neg hc1, if_pos h] at he; cases he
  have HSET := fun W b o => Aside0.mk (set_ok x W b n [] o hc1 hc2 (by simp) (by simp))
  obtain ⟨⟨p1, q1⟩, hp1⟩ := place_any l hs x.f1 x.f3
  obtain ⟨⟨p2, q2⟩, hp2⟩ := place_any l hs x.f2 x.f4
  have HP1 := Aside0.mk hp1
  have HP2 := Aside0.mk hp2
  have HR := Aside0.mk hr
  have HS := Aside0.mk hs
  have HV := Aside0.mk hv
  have HCP := Aside0.mk (copy_some' l hl)
  clear hr hs hv he hc1 hc2 hp1 hp2 hl
  obtain ⟨x0, x1, x2, x3, x4⟩ := x
  unfold encR at HSET ⊢
  simp only at HSET HP1 HP2 ⊢
  have HSET := Aside0.mk HSET
  go_enter Try.func5, Try.ntmps5
  go_wp2_with fail
  refine (awake_walk _).mono ?_
  rintro e W1 ⟨rfl, B1⟩
  have HB1 := Aside0.mk (below_then (below_alloc (Below.refl w.heap.size w) (.cells #[.string x0, .int .i64 x1, .int .i64 x2, .int .i64 x3, .int .i64 x4] 24)) (by simp) B1)
  have HX1 := Aside0.mk ((B1.block _ (by simp)).trans (MapKept.heap_alloc w (.cells #[.string x0, .int .i64 x1, .int .i64 x2, .int .i64 x3, .int .i64 x4] 24)).1)
  clear B1
  go_wp2_with fail
  refine (new_ok n W1 h0 h1).mono ?_
  rintro e W2 ⟨b2, rfl, o2, B2⟩
  have HB2 := Aside0.mk (below_then HB1.out HB1.out.size B2)
  have HX2 := Aside0.mk ((B2.block _ (blk_lt HX1.out)).trans HX1.out)
  have z0 := (blk_cell HX2.out 0).trans rfl
  have z1 := (blk_cell HX2.out 1).trans rfl
  have z2 := (blk_cell HX2.out 2).trans rfl
  have z3 := (blk_cell HX2.out 3).trans rfl
  have z4 := (blk_cell HX2.out 4).trans rfl
  have HO2 := Aside0.mk o2
  clear B2 o2
  go_wp2_with fail
  refine (HSET.out W2 b2 HO2.out).out.mono ?_
  rintro e W3 ⟨b3, rfl, o3, B3⟩
  have HB3 := Aside0.mk (below_then HB2.out HB2.out.size B3)
  have HX3 := Aside0.mk ((B3.block _ (blk_lt HX2.out)).trans HX2.out)
  have HO3 := Aside0.mk o3
  clear B3 o3 z0 z1 z2 z3 z4
  go_wp2_with fail
  refine (galleyref13_Copy.calls A c l l W3 (Kd.C_below HR.out HB3.out) hc HCP.out).mono ?_
  rintro e W4 ⟨v4, rfl, hv4, B4⟩
  obtain ⟨A4, c4, rfl, hc4, hr4⟩ := Kd.R_reads hv4
  have HB4 := Aside0.mk (below_then HB3.out HB3.out.size B4)
  have HX4 := Aside0.mk ((B4.block _ (blk_lt HX3.out)).trans HX3.out)
  obtain ⟨er, her, hBh⟩ := behind_refuses A4 c4 l W4 b3 n _ (HO3.out.below B4) hr4 hc4 HS.out HV.out
  have d1 : (er != 0) = true := bne_iff_ne.2 her
  have HBh := Aside0.mk hBh
  clear B4 hv4 hc4 hr4 hBh her
  go_wp2_with fail
  refine HBh.out.mono ?_
  rintro e W5 ⟨rfl, B5⟩
  have HB5 := Aside0.mk (below_then HB4.out HB4.out.size B5)
  have HX5 := Aside0.mk ((B5.block _ (blk_lt HX4.out)).trans HX4.out)
  clear B5 HBh
  go_wp2_with fail
  have s1 : W5.cell? ⟨w.heap.size, 1, none⟩ = some (.int .i64 x1) := (blk_cell HX5.out 1).trans rfl
  have s3 : W5.cell? ⟨w.heap.size, 3, none⟩ = some (.int .i64 x3) := (blk_cell HX5.out 3).trans rfl
  have sB := Below.refl W5.heap.size W5
  go_region_held3 (fun w' => w'.cell? ⟨w.heap.size, 1, none⟩ = some (.int .i64 x1) ∧ w'.cell? ⟨w.heap.size, 3, none⟩ = some (.int .i64 x3) ∧ Below W5.heap.size W5 w')
    (first
      | exact ⟨by assumption, by assumption, by assumption⟩
      | (go_split_ands
         first
           | exact ⟨by assumption, by assumption, by assumption⟩
           | exact ⟨by go_keep, by go_keep, below_drew1 (by assumption)⟩
           | exact ⟨keep_cell hB9 (by assumption), keep_cell hB9 (by assumption), keep_below hB9 (by assumption)⟩
           | exact ⟨keep_cell hB8 (by assumption), keep_cell hB8 (by assumption), keep_below hB8 (by assumption)⟩))
    (first
      | (go_at_call 14; refine (galleyref13_Copy.calls A c l l _ (Kd.C_below HR.out (below_then HB5.out HB5.out.size ?_)) hc HCP.out).mono ?_; (first | assumption | exact below_drew1 (by assumption)); rintro e w8 ⟨v8, rfl, hv8, hB8⟩; obtain ⟨A8, c8, rfl, hc8, hr8⟩ := Kd.R_reads hv8)
      | (go_at_call 25; refine (shift_Place.calls (6 * l.length + 4) A8 c8 l x1 x3 p1 q1 _ hr8 hc8 HP1.out).mono ?_; rintro e w9 ⟨rfl, hB9⟩))
  have hb9 : Below W5.heap.size W5 w9 := by go_split_ands; assumption
  have HB6 := Aside0.mk (below_then HB5.out HB5.out.size hb9)
  have HX6 := Aside0.mk ((hb9.block _ (blk_lt HX5.out)).trans HX5.out)
  obtain ⟨W6, hW6⟩ : ∃ W6, W6 = w9 := ⟨_, rfl⟩
  rw [← hW6] at HB6 HX6 ⊢
  clear hb9 hB9 hB8 hv8 hc8 hr8 hW6 s1 s3 sB
  go_wp2_with fail
  have s1 : W6.cell? ⟨w.heap.size, 2, none⟩ = some (.int .i64 x2) := (blk_cell HX6.out 2).trans rfl
  have s3 : W6.cell? ⟨w.heap.size, 4, none⟩ = some (.int .i64 x4) := (blk_cell HX6.out 4).trans rfl
  have sB := Below.refl W6.heap.size W6
  go_region_held3 (fun w' => w'.cell? ⟨w.heap.size, 2, none⟩ = some (.int .i64 x2) ∧ w'.cell? ⟨w.heap.size, 4, none⟩ = some (.int .i64 x4) ∧ Below W6.heap.size W6 w')
    (first
      | exact ⟨by assumption, by assumption, by assumption⟩
      | (go_split_ands
         first
           | exact ⟨by assumption, by assumption, by assumption⟩
           | exact ⟨by go_keep, by go_keep, below_drew1 (by assumption)⟩
           | exact ⟨keep_cell hB9 (by assumption), keep_cell hB9 (by assumption), keep_below hB9 (by assumption)⟩
           | exact ⟨keep_cell hB8 (by assumption), keep_cell hB8 (by assumption), keep_below hB8 (by assumption)⟩))
    (first
      | (go_at_call 14; refine (galleyref13_Copy.calls A c l l _ (Kd.C_below HR.out (below_then HB6.out HB6.out.size ?_)) hc HCP.out).mono ?_; (first | assumption | exact below_drew1 (by assumption)); rintro e w8 ⟨v8, rfl, hv8, hB8⟩; obtain ⟨A8, c8, rfl, hc8, hr8⟩ := Kd.R_reads hv8)
      | (go_at_call 25; refine (shift_Place.calls (6 * l.length + 4) A8 c8 l x2 x4 p2 q2 _ hr8 hc8 HP2.out).mono ?_; rintro e w9 ⟨rfl, hB9⟩))
  have hb9 : Below W6.heap.size W6 w9 := by go_split_ands; assumption
  have HB7 := Aside0.mk (below_then HB6.out HB6.out.size hb9)
  obtain ⟨W7, hW7⟩ : ∃ W7, W7 = w9 := ⟨_, rfl⟩
  rw [← hW7] at HB7 ⊢
  clear hb9 hB9 hB8 hv8 hc8 hr8 hW7 s1 s3 sB
  go_wp2_with fail
  refine (galleyref13_Copy.calls A c l l W7 (Kd.C_below HR.out HB7.out) hc HCP.out).mono ?_
  rintro e W8 ⟨v8, rfl, hv8, B8⟩
  obtain ⟨A8, c8, rfl, hc8, hr8⟩ := Kd.R_reads hv8
  have HB8 := Aside0.mk (below_then HB7.out HB7.out.size B8)
  have hLe : ∃ f t h : Int, delta_Lens.f (6 * l.length + 2) l = some (f, t, h) ∧ ((h != 0) = true ∨ (h = 0 ∧ (f != n) = true)) := by
    rw [lensF_tells l HS.out _ (by omega)]
    have hv := HV.out
    cases hb : validV l with
    | false => exact ⟨0, 0, 130, rfl, .inl rfl⟩
    | true =>
      rcases hv with hv | hv
      · rw [hb] at hv; cases hv
      · exact ⟨_, _, 0, rfl, .inr ⟨rfl, bne_iff_ne.2 hv⟩⟩
  obtain ⟨f, t, hh, hLe, hh2⟩ := hLe
  have HL := Aside0.mk (delta_Lens.calls _ A8 c8 l f t hh W8 hr8 hc8 hLe)
  clear B8 hv8 hc8 hr8 hLe
  go_wp2_with fail
  refine HL.out.mono ?_
  rintro e W9 ⟨rfl, B9⟩
  have HB9 := Aside0.mk (below_then HB8.out HB8.out.size B9)
  clear B9 HL
  rcases hh2 with hh2 | ⟨rfl, hh2⟩
  · go_wp2_with fail
    go_ret
    exact ⟨rfl, HB9.out⟩
  · go_wp2_with fail
    go_ret
    exact ⟨rfl, HB9.out⟩
end Go.Proofs.Ytjladdjpnicldaa.PA
