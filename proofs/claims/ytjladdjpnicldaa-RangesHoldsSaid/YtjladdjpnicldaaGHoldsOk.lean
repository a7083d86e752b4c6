/- The statement RangesHolds, walked where no call refuses: it answers true where the plain law HoldsPure holds. -/
import Derived.Test.YtjladdjpnicldaaGHolds
namespace Go.Proofs.Ytjladdjpnicldaa.PA
open Go.RowKit Go.Maps Go.Proofs.YtjladdjpnicldaaW.PrintWords Go.Proofs.YtjladdjpnicldaaW.PrintLast Go.Proofs.YtjladdjpnicldaaW.PrintMore
attribute [local go_sem] max2_int min2_int max_two min_two

theorem grav_cases {g : Int} (h : gravV g = true) : g = 1 ∨ g = 2 := by
  unfold gravV at h
  simpa using h
theorem moved_one_lt {l : List S56} {x : S24} {p1 p2 : Int} (h1 : placeV l x.f1 x.f3 = p1) (h2 : placeV l x.f2 x.f4 = p2) (h : p1 < p2) : movedRows l [x] = [⟨x.f0, p1, p2, x.f3, x.f4⟩] ∧ (goneNames l [x]).length = 0 := by
  simp [movedRows, goneNames, movR, h1, h2, h]
theorem moved_one_ge {l : List S56} {x : S24} {p1 p2 : Int} (h1 : placeV l x.f1 x.f3 = p1) (h2 : placeV l x.f2 x.f4 = p2) (h : ¬ p1 < p2) : movedRows l [x] = [] ∧ (goneNames l [x]).length = 1 := by
  simp [movedRows, goneNames, movR, h1, h2, h]
def CaseP (ok : Bool) (p1 p2 y1 y2 : Int) : Prop := (ok = true → p1 < p2 ∧ y1 = p1 ∧ y2 = p2) ∧ (ok = false → ¬ p1 < p2)
/-- the law's own loop: kept bytes, the place, the first kept byte -/
def holdStep (lo hi : Int) (s : Int × Int × Int) (o : S56) : Int × Int × Int :=
  if o.f0 = 2 then s
  else if o.f0 = 1 ∧ max s.2.1 lo < min (s.2.1 + o.f1) hi then (s.1 + (min (s.2.1 + o.f1) hi - max s.2.1 lo), s.2.1 + o.f1, if s.2.2 < 0 then max s.2.1 lo else s.2.2)
  else (s.1, s.2.1 + o.f1, s.2.2)
def holdV (lo hi : Int) (l : List S56) : Int × Int × Int := l.foldl (holdStep lo hi) (0, 0, -1)
theorem holdV_snoc (lo hi : Int) (l : List S56) (o : S56) : holdV lo hi (l ++ [o]) = holdStep lo hi (holdV lo hi l) o := by unfold holdV; rw [List.foldl_append]; rfl
theorem holdV_at (lo hi : Int) (l : List S56) : (holdV lo hi l).2.1 = (stateC l).1 := by
  have : ∀ (l : List S56) (s : Int × Int × Int) (t : Int × Bool × List S99), s.2.1 = t.1 → (l.foldl (holdStep lo hi) s).2.1 = (l.foldl stepC t).1 := by
    intro l
    induction l with
    | nil => intro s t h; exact h
    | cons o l ih =>
      intro s t h
      rw [List.foldl_cons, List.foldl_cons]
      apply ih
      obtain ⟨a, b, c⟩ := s
      obtain ⟨d, e, f⟩ := t
      simp only at h
      subst h
      unfold holdStep stepC
      by_cases h2 : o.f0 = 2
      · simp [h2]
      · by_cases h1 : o.f0 = 1
        · rw [if_neg h2, if_neg h2, if_pos h1]
          split <;> rfl
        · rw [if_neg h2, if_neg h2, if_neg h1, if_neg (fun h => h1 h.1)]
  exact this l _ _ rfl
/-- the loop's numbers are small -/
theorem holdV_small {l : List S56} (hV : Seen l) (lo hi : Int) (hlo : 0 ≤ lo) (hhi : hi ≤ 268435456) : ∀ k, k ≤ l.length → 0 ≤ (holdV lo hi (l.take k)).1 ∧ (holdV lo hi (l.take k)).1 ≤ (holdV lo hi (l.take k)).2.1 ∧ -1 ≤ (holdV lo hi (l.take k)).2.2 ∧ (holdV lo hi (l.take k)).2.2 ≤ 268435456
  | 0, _ => by simp [holdV]
  | k + 1, hk => by
    obtain ⟨h1, h2, h3, h4⟩ := holdV_small hV lo hi hlo hhi k (by omega)
    have hkn : k < l.length := by omega
    obtain ⟨v1, v2, v3, v4, v5, v6, v7⟩ := hV k hkn
    rw [← holdV_at lo hi] at v5 v6
    rw [List.take_succ_eq_append_getElem hkn, holdV_snoc]
    generalize holdV lo hi (l.take k) = s at *
    obtain ⟨a, b, c⟩ := s
    simp only at *
    unfold holdStep
    rcases v1 with ⟨v1, -⟩ | ⟨v1, v8⟩
    · rw [if_pos v1]; exact ⟨h1, h2, h3, h4⟩
    · rw [if_neg (by omega)]
      simp only
      split
      · rename_i hc
        refine ⟨by simp only; omega, by simp only; omega, ?_, ?_⟩
        · simp only; split <;> omega
        · simp only; split <;> omega
      · exact ⟨h1, by simp only; omega, h3, h4⟩
def HoldsPure (x : S24) (l : List S56) : Prop := x.f3 = 2 → x.f4 = 1 →
  if placeV l x.f1 x.f3 < placeV l x.f2 x.f4 then (holdV x.f1 x.f2 l).1 ≠ 0 ∧ (holdV x.f1 x.f2 l).1 ≤ placeV l x.f2 x.f4 - placeV l x.f1 x.f3 ∧ 0 ≤ (holdV x.f1 x.f2 l).2.2
  else (holdV x.f1 x.f2 l).1 = 0

set_option maxHeartbeats 8000000 in
set_option maxRecDepth 100000 in
theorem holds_ok (n : Int) (x : S24) (A : Option Addr) (c : Nat) (l : List S56) (w : World) (h0 : 0 ≤ n) (h1 : n ≤ 268435456) (he : setE n [] x = 0) (hr : Kd.C k56 w A l.length l) (hc : l.length ≤ c) (hl : l.length < 4398046511104) (hs : Sane l) (hv : validV l = true) (too : Int) (hf : sumsV 0 0 l = some (n, too)) (hpure : HoldsPure x l) (hpl : ∀ p g, 0 ≤ p → p ≤ n → 0 ≤ placeV l p g ∧ placeV l p g ≤ too) :
    Calls Try.prog 5 #[.int .i64 n, encR x, .slice A l.length c] w fun e w' => e = .returned (.bool true) ∧ Below w.heap.size w w' := by
  have hc1 : ¬ (x.f0.size = 0 ∨ 64 < x.f0.size) := fun h => by unfold setE at he; rw [if_pos h] at he; cases he
  have hc2 : ¬ (x.f1 < 0 ∨ x.f1 ≥ x.f2 ∨ x.f2 > n ∨ gravV x.f3 = false ∨ gravV x.f4 = false) := fun h => by unfold setE at he; rw [if_neg hc1, if_pos h] at he; cases he
  have HSET := fun W b o => Aside0.mk (set_ok x W b n [] o hc1 hc2 (by simp) (by simp))
  have hgr3 : x.f3 = 1 ∨ x.f3 = 2 := grav_cases (Bool.of_not_eq_false (fun e => hc2 (.inr (.inr (.inr (.inl e))))))
  have hgr4 : x.f4 = 1 ∨ x.f4 = 2 := grav_cases (Bool.of_not_eq_false (fun e => hc2 (.inr (.inr (.inr (.inr e))))))
  have hx1 : 0 ≤ x.f1 ∧ x.f1 < x.f2 ∧ x.f2 ≤ n := ⟨by have := fun e => hc2 (.inl e); omega, by have := fun e => hc2 (.inr (.inl e)); omega, by have := fun e => hc2 (.inr (.inr (.inl e))); omega⟩
  have hp1 := place_tells l hs hv x.f1 x.f3 (by omega) (by rw [hf]; simp only [Option.getD_some]; omega) hgr3 (6 * l.length + 4) (by omega)
  have hp2 := place_tells l hs hv x.f2 x.f4 (by omega) (by rw [hf]; simp only [Option.getD_some]; omega) hgr4 (6 * l.length + 4) (by omega)
  have hokr : okRow n x := ⟨by omega, by omega, by omega, by omega, by omega, hgr3, hgr4⟩
  have HOKR := Aside0.mk hokr
  have HF := Aside0.mk hf
  have HPU := Aside0.mk hpure
  have HPB1 := Aside0.mk (hpl x.f1 x.f3 (by omega) (by omega))
  have HPB2 := Aside0.mk (hpl x.f2 x.f4 (by omega) (by omega))
  have HXB := Aside0.mk hx1
  have HSE := Aside0.mk (seen_of_valid hv).1
  have HTO : Aside0 (too ≤ 268435456) := ⟨by obtain ⟨-, ft, hft, -, -, -, -, h6, -⟩ := seen_of_valid hv; rw [hf] at hft; cases hft; exact h6⟩
  have HSZ0 := Aside0.mk (show x.f0.size ≤ maxLen by unfold maxLen; omega)
  have HP1 := Aside0.mk hp1
  have HP2 := Aside0.mk hp2
  have HR := Aside0.mk hr
  have HS := Aside0.mk hs
  have HV := Aside0.mk hv
  have HCP := Aside0.mk (copy_some' l hl)
  clear hr hs hv he hc1 hc2 hp1 hp2 hf hpure hgr3 hgr4 hx1 hokr hpl
  obtain ⟨x0, x1, x2, x3, x4⟩ := x
  unfold encR at HSET ⊢
  simp only at HSET HP1 HP2 HSZ0 ⊢
  obtain ⟨p1, hp1_⟩ : ∃ p1, placeV l x1 x3 = p1 := ⟨_, rfl⟩
  obtain ⟨p2, hp2_⟩ : ∃ p2, placeV l x2 x4 = p2 := ⟨_, rfl⟩
  rw [hp1_] at HP1
  rw [hp2_] at HP2
  simp only at HPB1 HPB2 HXB
  rw [hp1_] at HPB1
  rw [hp2_] at HPB2
  have HE1 := Aside0.mk hp1_
  have HE2 := Aside0.mk hp2_
  clear hp1_ hp2_
  have HSET := Aside0.mk HSET
  go_enter Try.func5, Try.ntmps5
  go_wp2_with fail
  refine (awake_walk _).mono ?_
  rintro e W1 ⟨rfl, B1⟩
  have HB1 := Aside0.mk (below_then (below_alloc (Below.refl w.heap.size w) (.cells #[.string x0, .int .i64 x1, .int .i64 x2, .int .i64 x3, .int .i64 x4] 24)) (by simp) B1)
  have HX1 := Aside0.mk ((B1.block _ (by simp)).trans (MapKept.heap_alloc w (.cells #[.string x0, .int .i64 x1, .int .i64 x2, .int .i64 x3, .int .i64 x4] 24)).1)
  clear B1
  go_wp2_with fail
  refine (new_ok n W1 h0 h1).mono ?_
  rintro e W2 ⟨b2, rfl, o2, B2⟩
  have HB2 := Aside0.mk (below_then HB1.out HB1.out.size B2)
  have HX2 := Aside0.mk ((B2.block _ (blk_lt HX1.out)).trans HX1.out)
  have z0 := (blk_cell HX2.out 0).trans rfl
  have z1 := (blk_cell HX2.out 1).trans rfl
  have z2 := (blk_cell HX2.out 2).trans rfl
  have z3 := (blk_cell HX2.out 3).trans rfl
  have z4 := (blk_cell HX2.out 4).trans rfl
  have HO2 := Aside0.mk o2
  clear B2 o2
  go_wp2_with fail
  refine (HSET.out W2 b2 HO2.out).out.mono ?_
  rintro e W3 ⟨b3, rfl, o3, B3⟩
  have HB3 := Aside0.mk (below_then HB2.out HB2.out.size B3)
  have HX3 := Aside0.mk ((B3.block _ (blk_lt HX2.out)).trans HX2.out)
  have HO3 := Aside0.mk o3
  clear B3 o3 z0 z1 z2 z3 z4
  go_wp2_with fail
  refine (galleyref13_Copy.calls A c l l W3 (Kd.C_below HR.out HB3.out) hc HCP.out).mono ?_
  rintro e W4 ⟨v4, rfl, hv4, B4⟩
  obtain ⟨A4, c4, rfl, hc4, hr4⟩ := Kd.R_reads hv4
  have HB4 := Aside0.mk (below_then HB3.out HB3.out.size B4)
  have HX4 := Aside0.mk ((B4.block _ (blk_lt HX3.out)).trans HX3.out)
  have hBh := behind_ok A4 c4 l W4 b3 n too _ (HO3.out.below B4) hr4 hc4 HS.out HV.out HF.out (by
    intro y hy
    rw [List.mem_singleton.1 hy]
    exact HOKR.out) (by simp [setRows])
  have hso : sortN (setRows [] ⟨x0, x1, x2, x3, x4⟩) = [⟨x0, x1, x2, x3, x4⟩] := by simp [sortN, setRows]
  rw [hso] at hBh
  have HBh := Aside0.mk hBh
  clear B4 hv4 hc4 hr4 hBh hso
  go_wp2_with fail
  refine HBh.out.mono ?_
  rintro e W5 ⟨b5, vg, rfl, o5, hg5, B5⟩
  obtain ⟨A5, c5, rfl, -, -⟩ := Kd.R_reads hg5
  have HB5 := Aside0.mk (below_then HB4.out HB4.out.size B5)
  have HX5 := Aside0.mk ((B5.block _ (blk_lt HX4.out)).trans HX4.out)
  have HO5 := Aside0.mk o5
  obtain ⟨gl, hgl⟩ : ∃ gl, gl = (goneNames l [⟨x0, x1, x2, x3, x4⟩]).length := ⟨_, rfl⟩
  rw [← hgl]
  have HGL := Aside0.mk hgl
  clear B5 HBh o5 hg5 hgl
  go_wp2_with fail
  have s1 : W5.cell? ⟨w.heap.size, 1, none⟩ = some (.int .i64 x1) := (blk_cell HX5.out 1).trans rfl
  have s3 : W5.cell? ⟨w.heap.size, 3, none⟩ = some (.int .i64 x3) := (blk_cell HX5.out 3).trans rfl
  have sB := Below.refl W5.heap.size W5
  go_region_held3 (fun w' => w'.cell? ⟨w.heap.size, 1, none⟩ = some (.int .i64 x1) ∧ w'.cell? ⟨w.heap.size, 3, none⟩ = some (.int .i64 x3) ∧ Below W5.heap.size W5 w')
    (first
      | exact ⟨by assumption, by assumption, by assumption⟩
      | (go_split_ands
         first
           | exact ⟨by assumption, by assumption, by assumption⟩
           | exact ⟨by go_keep, by go_keep, below_drew1 (by assumption)⟩
           | exact ⟨keep_cell hB9 (by assumption), keep_cell hB9 (by assumption), keep_below hB9 (by assumption)⟩
           | exact ⟨keep_cell hB8 (by assumption), keep_cell hB8 (by assumption), keep_below hB8 (by assumption)⟩))
    (first
      | (go_at_call 14; refine (galleyref13_Copy.calls A c l l _ (Kd.C_below HR.out (below_then HB5.out HB5.out.size ?_)) hc HCP.out).mono ?_; (first | assumption | exact below_drew1 (by assumption)); rintro e w8 ⟨v8, rfl, hv8, hB8⟩; obtain ⟨A8, c8, rfl, hc8, hr8⟩ := Kd.R_reads hv8)
      | (go_at_call 25; refine (shift_Place.calls (6 * l.length + 4) A8 c8 l x1 x3 p1 0 _ hr8 hc8 HP1.out).mono ?_; rintro e w9 ⟨rfl, hB9⟩))
  have hb9 : Below W5.heap.size W5 w9 := by go_split_ands; assumption
  have HB6 := Aside0.mk (below_then HB5.out HB5.out.size hb9)
  have HO6 := Aside0.mk (HO5.out.below hb9)
  have HX6 := Aside0.mk ((hb9.block _ (blk_lt HX5.out)).trans HX5.out)
  obtain ⟨W6, hW6⟩ : ∃ W6, W6 = w9 := ⟨_, rfl⟩
  rw [← hW6] at HB6 HX6 HO6 ⊢
  clear hb9 hB9 hB8 hv8 hc8 hr8 hW6 s1 s3 sB
  go_wp2_with fail
  have s1 : W6.cell? ⟨w.heap.size, 2, none⟩ = some (.int .i64 x2) := (blk_cell HX6.out 2).trans rfl
  have s3 : W6.cell? ⟨w.heap.size, 4, none⟩ = some (.int .i64 x4) := (blk_cell HX6.out 4).trans rfl
  have sB := Below.refl W6.heap.size W6
  go_region_held3 (fun w' => w'.cell? ⟨w.heap.size, 2, none⟩ = some (.int .i64 x2) ∧ w'.cell? ⟨w.heap.size, 4, none⟩ = some (.int .i64 x4) ∧ Below W6.heap.size W6 w')
    (first
      | exact ⟨by assumption, by assumption, by assumption⟩
      | (go_split_ands
         first
           | exact ⟨by assumption, by assumption, by assumption⟩
           | exact ⟨by go_keep, by go_keep, below_drew1 (by assumption)⟩
           | exact ⟨keep_cell hB9 (by assumption), keep_cell hB9 (by assumption), keep_below hB9 (by assumption)⟩
           | exact ⟨keep_cell hB8 (by assumption), keep_cell hB8 (by assumption), keep_below hB8 (by assumption)⟩))
    (first
      | (go_at_call 14; refine (galleyref13_Copy.calls A c l l _ (Kd.C_below HR.out (below_then HB6.out HB6.out.size ?_)) hc HCP.out).mono ?_; (first | assumption | exact below_drew1 (by assumption)); rintro e w8 ⟨v8, rfl, hv8, hB8⟩; obtain ⟨A8, c8, rfl, hc8, hr8⟩ := Kd.R_reads hv8)
      | (go_at_call 25; refine (shift_Place.calls (6 * l.length + 4) A8 c8 l x2 x4 p2 0 _ hr8 hc8 HP2.out).mono ?_; rintro e w9 ⟨rfl, hB9⟩))
  have hb9 : Below W6.heap.size W6 w9 := by go_split_ands; assumption
  have HB7 := Aside0.mk (below_then HB6.out HB6.out.size hb9)
  have HO7 := Aside0.mk (HO6.out.below hb9)
  have HX7 := Aside0.mk ((hb9.block _ (blk_lt HX6.out)).trans HX6.out)
  obtain ⟨W7, hW7⟩ : ∃ W7, W7 = w9 := ⟨_, rfl⟩
  rw [← hW7] at HB7 HX7 HO7 ⊢
  clear hb9 hB9 hB8 hv8 hc8 hr8 hW7 s1 s3 sB
  go_wp2_with fail
  refine (galleyref13_Copy.calls A c l l W7 (Kd.C_below HR.out HB7.out) hc HCP.out).mono ?_
  rintro e W8 ⟨v8, rfl, hv8, B8⟩
  obtain ⟨A8, c8, rfl, hc8, hr8⟩ := Kd.R_reads hv8
  have HB8 := Aside0.mk (below_then HB7.out HB7.out.size B8)
  have HX8 := Aside0.mk ((B8.block _ (blk_lt HX7.out)).trans HX7.out)
  have HO8 := Aside0.mk (HO7.out.below B8)
  have hLe : delta_Lens.f (6 * l.length + 2) l = some (n, too, 0) := by
    rw [lensF_tells l HS.out _ (by omega), HV.out, HF.out]; rfl
  have HL := Aside0.mk (delta_Lens.calls _ A8 c8 l n too 0 W8 hr8 hc8 hLe)
  have dn : (n != n) = false := by simp
  clear B8 hv8 hc8 hr8 hLe
  go_wp2_with fail
  refine HL.out.mono ?_
  rintro e W9 ⟨rfl, B9⟩
  have HB9 := Aside0.mk (below_then HB8.out HB8.out.size B9)
  have HX9 := Aside0.mk ((B9.block _ (blk_lt HX8.out)).trans HX8.out)
  have HO9 := Aside0.mk (HO8.out.below B9)
  have z0 := (blk_cell HX9.out 0).trans rfl
  clear B9 HL
  go_wp2_with fail
  obtain ⟨y, ok, hG, hcase⟩ : ∃ (y : S24) (ok : Bool), Calls Try.prog 15 #[.pointer (some ⟨b5, 0, none⟩), .string x0] W9 (fun e w' => e = .returned (.tuple #[encR y, .bool ok]) ∧ Below W9.heap.size W9 w') ∧
      ((p1 < p2 ∧ ok = true ∧ y = ⟨x0, p1, p2, x3, x4⟩ ∧ gl = 0) ∨ (¬ p1 < p2 ∧ ok = false ∧ y = z24 ∧ gl = 1)) := by
    have hG := get_obj x0 W9 b5 too _ HO9.out HSZ0.out
    by_cases hlt : p1 < p2
    · obtain ⟨h1, h2⟩ := moved_one_lt (x := ⟨x0, x1, x2, x3, x4⟩) HE1.out HE2.out hlt
      rw [h1] at hG
      refine ⟨_, _, hG, .inl ⟨hlt, by simp [getV], by simp [getV], ?_⟩⟩
      rw [HGL.out, h2]
    · obtain ⟨h1, h2⟩ := moved_one_ge (x := ⟨x0, x1, x2, x3, x4⟩) HE1.out HE2.out hlt
      rw [h1] at hG
      refine ⟨_, _, hG, .inr ⟨hlt, by simp [getV], by simp [getV], ?_⟩⟩
      rw [HGL.out, h2]
  obtain ⟨y0, y1, y2, y3, y4⟩ := y
  unfold encR at hG
  simp only at hG
  refine hG.mono ?_
  rintro e W10 ⟨rfl, B10⟩
  have HB10 := Aside0.mk (below_then HB9.out HB9.out.size B10)
  have HX10 := Aside0.mk ((B10.block _ (blk_lt HX9.out)).trans HX9.out)
  clear hG B10 z0
  have z1 := cell_later ((blk_cell HX10.out 1).trans rfl) (.cells #[.string y0, .int .i64 y1, .int .i64 y2, .int .i64 y3, .int .i64 y4] 24)
  have z2 := cell_later ((blk_cell HX10.out 2).trans rfl) (.cells #[.string y0, .int .i64 y1, .int .i64 y2, .int .i64 y3, .int .i64 y4] 24)
  have z3 := cell_later ((blk_cell HX10.out 3).trans rfl) (.cells #[.string y0, .int .i64 y1, .int .i64 y2, .int .i64 y3, .int .i64 y4] 24)
  have z4 := cell_later ((blk_cell HX10.out 4).trans rfl) (.cells #[.string y0, .int .i64 y1, .int .i64 y2, .int .i64 y3, .int .i64 y4] 24)
  have HCASE : CaseP ok p1 p2 y1 y2 := by
    rcases hcase with ⟨h1, rfl, h3, rfl⟩ | ⟨h1, rfl, h3, rfl⟩
    · cases h3
      exact ⟨fun _ => ⟨h1, rfl, rfl⟩, fun h => (by cases h)⟩
    · exact ⟨fun h => (by cases h), fun _ => h1⟩
  have hd : decide (p1 < p2) = ok ∧ ((gl : Int) == 0) = ok ∧ (ok = true → (y1 != p1) = false ∧ (y2 != p2) = false ∧ (y3 != x3) = false ∧ (y4 != x4) = false) := by
    rcases hcase with ⟨h1, rfl, h3, rfl⟩ | ⟨h1, rfl, h3, rfl⟩
    · cases h3
      exact ⟨decide_eq_true h1, rfl, fun _ => ⟨by simp, by simp, by simp, by simp⟩⟩
    · exact ⟨decide_eq_false h1, rfl, fun h => by cases h⟩
  obtain ⟨hd1, hd2, hd3⟩ := hd
  by_cases hst : x3 = 2 ∧ x4 = 1
  · have ds1 : (x3 != 2) = false := by rw [hst.1]; rfl
    have ds2 : (x4 != 1) = false := by rw [hst.2]; rfl
    have HST := Aside0.mk hst
    clear hst
    cases ok
    all_goals
      first
        | obtain ⟨hd4, hd5, hd6, hd7⟩ := hd3 rfl
        | skip
      clear hd3 hcase
      go_wp2_with fail
      obtain ⟨W11, HW11⟩ : ∃ W11, W11 = W10.alloc (.cells #[.string y0, .int .i64 y1, .int .i64 y2, .int .i64 y3, .int .i64 y4] 24) := ⟨_, rfl⟩
      rw [← HW11]
      rw [← HW11] at z1 z2 z3 z4
      have HB11 : Aside0 (Below w.heap.size w W11) := ⟨by rw [HW11]; exact below_alloc HB10.out _⟩
      have HY11 : Aside0 (W11.heap[W10.heap.size]? = some (.cells #[.string y0, .int .i64 y1, .int .i64 y2, .int .i64 y3, .int .i64 y4] 24 (0, 0))) := ⟨by rw [HW11]; exact (MapKept.heap_alloc W10 _).1⟩
      have HX11 := Aside0.mk (show W11.heap[w.heap.size]? = some (.cells #[.string x0, .int .i64 x1, .int .i64 x2, .int .i64 x3, .int .i64 x4] 24 (0, 0)) by rw [HW11]; exact blk_alloc HX10.out _)
      clear HW11 z1 z2 z3 z4 hd1 hd2 ds1 ds2
      go_loopg [20, 21, 22, 179] l.length (fun kq v20 v21 v22 v179 wr => ∃ (k : Nat), v179 = .int .i64 k ∧ k ≤ l.length ∧ l.length - k ≤ kq ∧ v20 = .int .i64 (holdV x1 x2 (l.take k)).1 ∧ v21 = .int .i64 (holdV x1 x2 (l.take k)).2.1 ∧ v22 = .int .i64 (holdV x1 x2 (l.take k)).2.2 ∧ Aside0 (Below W11.heap.size W11 wr))
      case atStart => exact ⟨0, rfl, Nat.zero_le _, by omega, rfl, rfl, rfl, ⟨Below.refl _ _⟩⟩
      case round =>
        obtain ⟨k, rfl, hk, hkq, rfl, rfl, rfl, HBR⟩ := hrel
        by_cases hkn : k < l.length
        · have e1 : decide ((k : Int) < (l.length : Int)) = true := decide_eq_true (by omega)
          obtain ⟨k2, hk2_⟩ : ∃ k2, k2 = k + 1 := ⟨_, rfl⟩
          have e2 : IntKind.i64.wrap ((k : Int) + 1) = (k2 : Int) := by rw [IntKind.wrap_i64]; omega
          have e3 : (k : Int) + 1 = (k2 : Int) := by omega
          have HK2 := Aside0.mk hk2_
          clear hk2_
          have hBw := below_then HB11.out HB11.out.size HBR.out
          obtain ⟨ad, eA, t0, t1, t2⟩ := at_T56 HR.out (k : Int) (by omega) (by omega)
          cases eA
          replace t0 := (hBw.cell (World.block_lt_of_cell? w _ t0)).trans t0
          replace t1 := (hBw.cell (World.block_lt_of_cell? w _ t1)).trans t1
          replace t2 := (hBw.cell (World.block_lt_of_cell? w _ t2)).trans t2
          rw [rd56_get hkn, Int.toNat_natCast] at t0 t1 t2
          have hv := HSE.out k hkn
          have hsm := holdV_small HSE.out x1 x2 (by have := HXB.out; omega) (by have := HXB.out; omega) k hk
          have hat := holdV_at x1 x2 (l.take k)
          have HT := Aside0.mk (show holdV x1 x2 (l.take (k + 1)) = holdStep x1 x2 (holdV x1 x2 (l.take k)) l[k] by rw [List.take_succ_eq_append_getElem hkn, holdV_snoc])
          have hxr := (HBR.out.block _ (blk_lt HX11.out)).trans HX11.out
          have q1 : ∀ o, (wr.alloc o).cell? ⟨w.heap.size, 1, none⟩ = some (.int .i64 x1) := fun o => cell_later ((blk_cell hxr 1).trans rfl) o
          have q2 : ∀ o, (wr.alloc o).cell? ⟨w.heap.size, 2, none⟩ = some (.int .i64 x2) := fun o => cell_later ((blk_cell hxr 2).trans rfl) o
          obtain ⟨v1, -, -, -, v5, v6, v7⟩ := hv
          rw [← hat] at v5 v6
          generalize l[k] = o at *
          generalize holdV x1 x2 (l.take k) = s at *
          obtain ⟨kept, at_, first⟩ := s
          obtain ⟨f0, f1, f2⟩ := o
          simp only at *
          obtain ⟨m1, m2, m3, m4⟩ := hsm
          have hxb := HXB.out
          have HB12 := Aside0.mk (fun o => below_alloc HBR.out o)
          clear hBw hat hxr
          rcases v1 with ⟨rfl, hs2⟩ | ⟨v1, hn1⟩
          · clear q1 q2 hxb
            go_wp2_with fail
            go_roundg (l.length - k2)
            case measure => have := HK2.out; omega
            case rel =>
              have hh : holdV x1 x2 (l.take k2) = (kept, at_, first) := by rw [HK2.out, HT.out]; simp [holdStep]
              exact ⟨k2, rfl, by have := HK2.out; omega, Nat.le_refl _, by rw [hh], by rw [hh], by rw [hh], ⟨HB12.out _⟩⟩
          · have d0 : (f0 == 2) = false := by rcases v1 with rfl | rfl <;> rfl
            have w1_ : IntKind.i64.wrap (at_ + f1) = at_ + f1 := by rw [IntKind.wrap_i64]; omega
            obtain ⟨mx, hmx⟩ : ∃ mx, (if at_ < x1 then x1 else at_) = mx := ⟨_, rfl⟩
            obtain ⟨mn, hmn⟩ : ∃ mn, (if x2 < at_ + f1 then x2 else at_ + f1) = mn := ⟨_, rfl⟩
            have HMX := Aside0.mk (show max at_ x1 = mx by rw [← hmx]; split <;> omega)
            have HMN := Aside0.mk (show min (at_ + f1) x2 = mn by rw [← hmn]; split <;> omega)
            have hmb : 0 ≤ mx ∧ mx ≤ 268435456 ∧ mn ≤ 268435456 := by
              have := HMX.out; have := HMN.out; omega
            clear hxb
            by_cases hkeep : f0 = 1 ∧ mx < mn
            · have d1 : (f0 == 1) = true := by rw [hkeep.1]; rfl
              have d2 : decide (mx < mn) = true := decide_eq_true hkeep.2
              have w2_ : IntKind.i64.wrap (mn - mx) = mn - mx := by rw [IntKind.wrap_i64]; omega
              have w3_ : IntKind.i64.wrap (kept + (mn - mx)) = kept + (mn - mx) := by rw [IntKind.wrap_i64]; omega
              have HKE := Aside0.mk hkeep
              clear hkeep
              by_cases hfi : first < 0
              · have d3 : decide (first < 0) = true := decide_eq_true hfi
                go_wp2_with fail
                go_quiet (fail)
                go_wp2_with fail
                go_roundg (l.length - k2)
                case measure => have := HK2.out; omega
                case rel =>
                  have hh : holdV x1 x2 (l.take k2) = (kept + (mn - mx), at_ + f1, mx) := by
                    rw [HK2.out, HT.out]
                    unfold holdStep
                    simp only
                    rw [if_neg (by have := HKE.out; omega), HMX.out, HMN.out, if_pos HKE.out, if_pos (by omega)]
                  exact ⟨k2, rfl, by have := HK2.out; omega, Nat.le_refl _, by rw [hh], by rw [hh], by rw [hh], ⟨pw_below_drewN (HB12.out _) _⟩⟩
              · have d3 : decide (first < 0) = false := decide_eq_false hfi
                go_wp2_with fail
                go_quiet (fail)
                go_wp2_with fail
                go_roundg (l.length - k2)
                case measure => have := HK2.out; omega
                case rel =>
                  have hh : holdV x1 x2 (l.take k2) = (kept + (mn - mx), at_ + f1, first) := by
                    rw [HK2.out, HT.out]
                    unfold holdStep
                    simp only
                    rw [if_neg (by have := HKE.out; omega), HMX.out, HMN.out, if_pos HKE.out, if_neg (by omega)]
                  exact ⟨k2, rfl, by have := HK2.out; omega, Nat.le_refl _, by rw [hh], by rw [hh], by rw [hh], ⟨pw_below_drewN (HB12.out _) _⟩⟩
            · have HKE := Aside0.mk hkeep
              clear hkeep
              by_cases hk1 : f0 = 1
              · have d1 : (f0 == 1) = true := by rw [hk1]; rfl
                have d2 : decide (mx < mn) = false := decide_eq_false (fun h => HKE.out ⟨hk1, h⟩)
                clear hk1
                go_wp2_with fail
                go_quiet (fail)
                go_wp2_with fail
                go_roundg (l.length - k2)
                case measure => have := HK2.out; omega
                case rel =>
                  have hh : holdV x1 x2 (l.take k2) = (kept, at_ + f1, first) := by
                    rw [HK2.out, HT.out]
                    unfold holdStep
                    simp only
                    rw [if_neg (by omega), HMX.out, HMN.out, if_neg HKE.out]
                  exact ⟨k2, rfl, by have := HK2.out; omega, Nat.le_refl _, by rw [hh], by rw [hh], by rw [hh], ⟨pw_below_drewN (HB12.out _) _⟩⟩
              · have d1 : (f0 == 1) = false := beq_eq_false_iff_ne.2 hk1
                clear hk1
                go_wp2_with fail
                go_quiet (fail)
                go_wp2_with fail
                go_roundg (l.length - k2)
                case measure => have := HK2.out; omega
                case rel =>
                  have hh : holdV x1 x2 (l.take k2) = (kept, at_ + f1, first) := by
                    rw [HK2.out, HT.out]
                    unfold holdStep
                    simp only
                    rw [if_neg (by omega), HMX.out, HMN.out, if_neg HKE.out]
                  exact ⟨k2, rfl, by have := HK2.out; omega, Nat.le_refl _, by rw [hh], by rw [hh], by rw [hh], ⟨pw_below_drewN (HB12.out _) _⟩⟩
        · have e1 : decide ((k : Int) < (l.length : Int)) = false := decide_eq_false (by omega)
          obtain rfl : k = l.length := by omega
          have hyr := (HBR.out.block _ (blk_lt HY11.out)).trans HY11.out
          have q1 : wr.cell? ⟨W10.heap.size, 1, none⟩ = some (.int .i64 y1) := (blk_cell hyr 1).trans rfl
          have q2 : wr.cell? ⟨W10.heap.size, 2, none⟩ = some (.int .i64 y2) := (blk_cell hyr 2).trans rfl
          rw [List.take_length]
          have hpu := HPU.out HST.out.1 HST.out.2
          simp only at hpu
          rw [HE1.out, HE2.out] at hpu
          generalize holdV x1 x2 l = s at hpu ⊢
          obtain ⟨kept, at_, first⟩ := s
          simp only at hpu ⊢
          first
            | (obtain ⟨hlt, hya, hyb⟩ := HCASE.1 rfl
               subst hya hyb
               rw [if_pos hlt] at hpu
               have k1 : (kept == 0) = false := beq_eq_false_iff_ne.2 hpu.1
               have kb := HPB1.out
               have kb2 := HPB2.out
               have kb3 := HTO.out
               have k2 : IntKind.i64.wrap (y2 - y1) = y2 - y1 := by rw [IntKind.wrap_i64]; omega
               have k3 : decide (kept ≤ y2 - y1) = true := decide_eq_true hpu.2.1
               have k4 : decide (0 ≤ first) = true := decide_eq_true hpu.2.2
               clear hpu kb kb2 kb3 hlt
               go_wp2_with fail
               go_ret
               exact ⟨rfl, below_then HB11.out HB11.out.size HBR.out⟩)
            | (have hlt := HCASE.2 rfl
               rw [if_neg hlt] at hpu
               have k1 : (kept == 0) = true := beq_iff_eq.2 hpu
               clear hpu hlt
               go_wp2_with fail
               go_ret
               exact ⟨rfl, below_then HB11.out HB11.out.size HBR.out⟩)
  · by_cases hs2 : x3 = 2
    · have ds1 : (x3 != 2) = false := by rw [hs2]; rfl
      have ds2 : (x4 != 1) = true := bne_iff_ne.2 (fun h => hst ⟨hs2, h⟩)
      clear hst hs2
      cases ok
      all_goals
        first
          | obtain ⟨hd4, hd5, hd6, hd7⟩ := hd3 rfl
          | skip
        clear hd3 hcase
        go_wp2_with fail
        go_ret
        exact ⟨rfl, below_alloc HB10.out _⟩
    · have ds1 : (x3 != 2) = true := bne_iff_ne.2 hs2
      clear hst hs2
      cases ok
      all_goals
        first
          | obtain ⟨hd4, hd5, hd6, hd7⟩ := hd3 rfl
          | skip
        clear hd3 hcase
        go_wp2_with fail
        go_ret
        exact ⟨rfl, below_alloc HB10.out _⟩
end Go.Proofs.Ytjladdjpnicldaa.PA
