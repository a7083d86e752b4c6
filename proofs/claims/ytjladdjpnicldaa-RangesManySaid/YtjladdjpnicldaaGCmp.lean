/- cmp.Compare and cmp.Or at int, and the closure that List hands to the sort. -/
import Derived.Test.YtjladdjpnicldaaGBehind
namespace Go.Proofs.Ytjladdjpnicldaa.PA
open Go.RowKit Go.Maps Go.Proofs.YtjladdjpnicldaaW.PrintWords Go.Proofs.YtjladdjpnicldaaW.PrintLast Go.Proofs.YtjladdjpnicldaaW.PrintMore

def cmpZ (a b : Int) : Int := if a < b then -1 else if a > b then 1 else 0
def orZ (a b : Int) : Int := if a ≠ 0 then a else b
def cfR (x y : S24) : Int := orZ (cmpZ x.f1 y.f1) (cmpZ x.f2 y.f2)

set_option maxHeartbeats 1000000 in
set_option maxRecDepth 100000 in
theorem isNaN_walk (a : Int) (w : World) : Calls Try.prog 52 #[.int .i64 a] w fun e w' => e = .returned (.bool false) ∧ w' = w := by
  have e1 : (a != a) = false := by simp
  go_enter Try.func52, Try.ntmps52
  go_wp2_with fail
  go_ret
  exact ⟨rfl, rfl⟩

set_option maxHeartbeats 1000000 in
set_option maxRecDepth 100000 in
theorem compare_walk (a b : Int) (w : World) : Calls Try.prog 35 #[.int .i64 a, .int .i64 b] w fun e w' => e = .returned (.int .i64 (cmpZ a b)) ∧ w' = w := by
  have h1 := Aside0.mk (isNaN_walk a w)
  have h2 := Aside0.mk (isNaN_walk b w)
  obtain ⟨z, hz⟩ : ∃ z, cmpZ a b = z := ⟨_, rfl⟩
  have HZ := Aside0.mk hz
  rw [hz]
  clear hz
  go_enter Try.func35, Try.ntmps35
  go_wp2_with fail
  refine h1.out.mono ?_
  rintro e w' ⟨rfl, rfl⟩
  go_wp2_with fail
  refine h2.out.mono ?_
  rintro e w' ⟨rfl, rfl⟩
  by_cases c1 : a < b
  · have e1 : decide (a < b) = true := decide_eq_true c1
    have hz : z = -1 := by rw [← HZ.out, cmpZ, if_pos c1]
    subst hz
    go_wp2_with fail
    go_ret
    exact ⟨rfl, rfl⟩
  · have e1 : decide (a < b) = false := decide_eq_false c1
    by_cases c2 : a > b
    · have e2 : decide (a > b) = true := decide_eq_true c2
      have hz : z = 1 := by rw [← HZ.out, cmpZ, if_neg c1, if_pos c2]
      subst hz
      go_wp2_with fail
      go_ret
      exact ⟨rfl, rfl⟩
    · have e2 : decide (a > b) = false := decide_eq_false c2
      have hz : z = 0 := by rw [← HZ.out, cmpZ, if_neg c1, if_neg c2]
      subst hz
      go_wp2_with fail
      go_ret
      exact ⟨rfl, rfl⟩

set_option maxHeartbeats 1000000 in
set_option maxRecDepth 100000 in
theorem or_walk (g cap : Nat) (a b : Int) (w : World) (c0 : w.cell? ⟨g, 0, none⟩ = some (.int .i64 a)) (c1 : w.cell? ⟨g, 1, none⟩ = some (.int .i64 b)) : Calls Try.prog 34 #[.slice (some ⟨g, 0, none⟩) 2 cap] w fun e w' => e = .returned (.int .i64 (orZ a b)) ∧ w' = w := by
  obtain ⟨z, hz⟩ : ∃ z, orZ a b = z := ⟨_, rfl⟩
  have HZ := Aside0.mk hz
  rw [hz]
  clear hz
  go_enter Try.func34, Try.ntmps34
  go_wp2_with fail
  go_loopg [8] 2 (fun kk v wr => ∃ i : Nat, v = .int .i64 i ∧ i ≤ 2 ∧ 2 - i ≤ kk ∧ wr = w ∧ Aside0 ((0 < i → a = 0) ∧ (1 < i → b = 0)))
  case atStart => exact ⟨0, rfl, by omega, by omega, rfl, ⟨fun h => by omega, fun h => by omega⟩⟩
  case round =>
    obtain ⟨i, rfl, hi, hk, rfl, HI⟩ := hrel
    rcases (by omega : i = 0 ∨ i = 1 ∨ i = 2) with rfl | rfl | rfl
    · by_cases ha : a = 0
      · have e1 : (a != 0) = false := by simp [ha]
        go_wp2_with fail
        go_roundg 1
        case measure => omega
        case rel => exact ⟨1, rfl, by omega, by omega, rfl, ⟨fun _ => ha, fun h => by omega⟩⟩
      · have e1 : (a != 0) = true := by simpa using ha
        have hz : z = a := by rw [← HZ.out, orZ, if_pos ha]
        subst hz
        go_wp2_with fail
        go_ret
        exact ⟨rfl, rfl⟩
    · by_cases hb : b = 0
      · have e1 : (b != 0) = false := by simp [hb]
        go_wp2_with fail
        go_roundg 0
        case measure => omega
        case rel => exact ⟨2, rfl, by omega, by omega, rfl, ⟨fun _ => HI.out.1 (by omega), fun _ => hb⟩⟩
      · have e1 : (b != 0) = true := by simpa using hb
        have hz : z = b := by rw [← HZ.out, orZ, if_neg (by simpa using HI.out.1 (by omega))]
        subst hz
        go_wp2_with fail
        go_ret
        exact ⟨rfl, rfl⟩
    · have hz : z = 0 := by rw [← HZ.out, orZ, if_neg (by simpa using HI.out.1 (by omega)), HI.out.2 (by omega)]
      subst hz
      go_wp2_with fail
      go_ret
      exact ⟨rfl, rfl⟩

theorem cell_newd (W : World) (cs : Array Value) (t i : Nat) : (W.alloc (.cells cs t)).drew.cell? ⟨W.heap.size, i, none⟩ = cs[i]? := blk_cell (w := (W.alloc (.cells cs t)).drew) (MapKept.heap_alloc W (.cells cs t)).1 i
/-- a range's cells -/
def encL (x : S24) : List Value := [.string x.f0, .int .i64 x.f1, .int .i64 x.f2, .int .i64 x.f3, .int .i64 x.f4]
set_option maxHeartbeats 4000000 in
set_option maxRecDepth 100000 in
theorem closR_walk (x y : S24) (w : World) : Calls Try.prog 33 #[.agg (encL x).toArray, .agg (encL y).toArray] w fun e w' => e = .returned (.int .i64 (cfR x y)) ∧ Below w.heap.size w w' := by
  have hc1 := fun W => compare_walk x.f1 y.f1 W
  have hc2 := fun W => compare_walk x.f2 y.f2 W
  have HC1 := Aside0.mk hc1
  have HC2 := Aside0.mk hc2
  obtain ⟨z, hz⟩ : ∃ z, cfR x y = z := ⟨_, rfl⟩
  have HZ := Aside0.mk hz
  rw [hz]
  obtain ⟨u1, hu1⟩ : ∃ u, cmpZ x.f1 y.f1 = u := ⟨_, rfl⟩
  obtain ⟨u2, hu2⟩ : ∃ u, cmpZ x.f2 y.f2 = u := ⟨_, rfl⟩
  rw [cfR, hu1, hu2] at hz
  rw [hu1] at HC1
  rw [hu2] at HC2
  have HO := Aside0.mk (fun (g cap : Nat) W c0 c1 => or_walk g cap u1 u2 W c0 c1)
  rw [hz] at HO
  clear hc1 hc2 hz hu1 hu2
  unfold encL
  obtain ⟨x0, x1, x2, x3, x4⟩ := x
  obtain ⟨y0, y1, y2, y3, y4⟩ := y
  go_enter Try.func33, Try.ntmps33
  go_wp2_with fail
  have bx := (MapKept.heap_alloc w (.cells #[.string x0, .int .i64 x1, .int .i64 x2, .int .i64 x3, .int .i64 x4] 24)).1
  have bx := blk_alloc bx (.cells #[.string y0, .int .i64 y1, .int .i64 y2, .int .i64 y3, .int .i64 y4] 24)
  have bY := (MapKept.heap_alloc (w.alloc (.cells #[.string x0, .int .i64 x1, .int .i64 x2, .int .i64 x3, .int .i64 x4] 24)) (.cells #[.string y0, .int .i64 y1, .int .i64 y2, .int .i64 y3, .int .i64 y4] 24)).1
  rw [World.size_alloc] at bY
  have HB := Aside0.mk (show Below w.heap.size w ((w.alloc (.cells #[.string x0, .int .i64 x1, .int .i64 x2, .int .i64 x3, .int .i64 x4] 24)).alloc (.cells #[.string y0, .int .i64 y1, .int .i64 y2, .int .i64 y3, .int .i64 y4] 24)) from below_alloc (below_alloc (Below.refl _ _) _) _)
  generalize (w.alloc (.cells #[.string x0, .int .i64 x1, .int .i64 x2, .int .i64 x3, .int .i64 x4] 24)).alloc (.cells #[.string y0, .int .i64 y1, .int .i64 y2, .int .i64 y3, .int .i64 y4] 24) = W1 at bx bY HB ⊢
  have s1 : W1.cell? ⟨w.heap.size, 1, none⟩ = some (.int .i64 x1) := (blk_cell bx 1).trans rfl
  have s2 : W1.cell? ⟨w.heap.size, 2, none⟩ = some (.int .i64 x2) := (blk_cell bx 2).trans rfl
  have s3 : W1.cell? ⟨w.heap.size + 1, 1, none⟩ = some (.int .i64 y1) := (blk_cell bY 1).trans rfl
  have s4 : W1.cell? ⟨w.heap.size + 1, 2, none⟩ = some (.int .i64 y2) := (blk_cell bY 2).trans rfl
  have sB := Below.refl W1.heap.size W1
  clear bx bY
  go_region_held3 (fun w' => w'.cell? ⟨w.heap.size, 1, none⟩ = some (.int .i64 x1) ∧ w'.cell? ⟨w.heap.size, 2, none⟩ = some (.int .i64 x2) ∧ w'.cell? ⟨w.heap.size + 1, 1, none⟩ = some (.int .i64 y1) ∧ w'.cell? ⟨w.heap.size + 1, 2, none⟩ = some (.int .i64 y2) ∧ Below W1.heap.size W1 w')
    (first
      | exact ⟨by assumption, by assumption, by assumption, by assumption, by assumption⟩
      | (go_split_ands
         first
           | exact ⟨by assumption, by assumption, by assumption, by assumption, by assumption⟩
           | exact ⟨by go_keep, by go_keep, by go_keep, by go_keep, below_drew1 (by assumption)⟩
           | exact ⟨cell_later (by assumption) _, cell_later (by assumption) _, cell_later (by assumption) _, cell_later (by assumption) _, below_alloc (by assumption) _⟩))
    (first
      | (go_at_call 35; (first | (with_reducible refine (HC1.out _).mono ?_) | (with_reducible refine (HC2.out _).mono ?_)); rintro e w9 ⟨rfl, rfl⟩)
      | (go_at_call 34; refine (HO.out _ _ _ ?_ ?_).mono ?_; exact (cell_newd _ _ _ _).trans rfl; exact (cell_newd _ _ _ _).trans rfl; rintro e w8 ⟨rfl, rfl⟩))
  go_wp2_with fail
  go_ret
  go_split_ands
  refine ⟨rfl, below_then HB.out HB.out.size ?_⟩
  first | assumption | exact below_drew1 (by assumption) | exact below_drew1 (below_alloc (by assumption) _)
end Go.Proofs.Ytjladdjpnicldaa.PA
