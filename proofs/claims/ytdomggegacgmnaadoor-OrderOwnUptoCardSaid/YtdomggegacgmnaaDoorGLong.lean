/- galleyref02.Long: how many bytes the encoding has that begins at a place: the call hands back longV of the four bytes there; it only reads. For every slice of bytes and every place. -/
import Derived.Test.YtdomggegacgmnaaDoorGCore
namespace Go.Proofs.YtdomggegacgmnaaDoor.PA
open Go.RowKit Go.Proofs.YtdomggegacgmnaaDoorW.PrintWords Go.Proofs.YtdomggegacgmnaaDoorW.PrintLast Go.Proofs.YtdomggegacgmnaaDoorW.PrintMore

theorem at_f (l : List Int) (p : Int) : galleyref02_at.f l p = some (atV l p) := by
  unfold galleyref02_at.f atV
  by_cases h1 : p < 0
  · rw [if_pos h1, if_pos h1]
  · rw [if_neg h1, if_neg h1]
    by_cases h2 : p ≥ (l.length : Int)
    · rw [if_pos h2, if_pos h2]
    · rw [if_neg h2, if_neg h2, if_pos (by omega), if_pos (by omega)]
theorem in_yes (x lo hi : Int) (w : World) (h1 : lo ≤ x) (h2 : x ≤ hi) : Calls Tryd.prog 61 #[.int .i64 x, .int .i64 lo, .int .i64 hi] w fun e w' => e = .returned (.bool true) ∧ Drawn0 w w' :=
  galleyref02_in.calls x lo hi true w (by unfold galleyref02_in.f; rw [if_pos h1]; simp [h2])
theorem in_no (x lo hi : Int) (w : World) (h : x < lo ∨ hi < x) : Calls Tryd.prog 61 #[.int .i64 x, .int .i64 lo, .int .i64 hi] w fun e w' => e = .returned (.bool false) ∧ Drawn0 w w' :=
  galleyref02_in.calls x lo hi false w (by
    unfold galleyref02_in.f
    by_cases h1 : x ≥ lo
    · rw [if_pos h1]; simp; omega
    · rw [if_neg h1])
/-- a byte that a place holds: the call of 'at' hands it back, in whatever world some orders on -/
structure Gives (A0 : Option Addr) (n c0 : Nat) (w : World) (p x : Int) : Prop where mk ::
  (out : ∀ m, Calls Tryd.prog 60 #[.slice A0 n c0, .int .i64 p] (w.drewN m) fun e w' => e = .returned (.int .i64 x) ∧ Drawn0 (w.drewN m) w')
theorem Gives.zero {A0 : Option Addr} {n c0 : Nat} {w : World} {p x : Int} (h : Gives A0 n c0 w p x) : Calls Tryd.prog 60 #[.slice A0 n c0, .int .i64 p] w fun e w' => e = .returned (.int .i64 x) ∧ Drawn0 w w' := h.out 0

set_option maxHeartbeats 4000000 in
set_option maxRecDepth 100000 in
theorem long_a (A0 : Option Addr) (n c0 : Nat) (a1 x y z v : Int) (w : World)
    (ax : Gives A0 n c0 w a1 x) (ay : Gives A0 n c0 w (wrap64 (a1 + 1)) y) (az : Gives A0 n c0 w (wrap64 (a1 + 2)) z) (av : Gives A0 n c0 w (wrap64 (a1 + 3)) v)
    (h0 : 0 ≤ x) (h1 : x ≤ 127) :
    Calls Tryd.prog 48 #[.slice A0 n c0, .int .i64 a1] w fun e w' => e = .returned (.int .i64 (longV x y z v)) ∧ Drawn0 w w' := by
  have hv : longV x y z v = 1 := by
    simp only [longV, inV, Bool.and_eq_true, Bool.or_eq_true, decide_eq_true_eq, beq_iff_eq]
    (repeat' split) <;> omega
  rw [hv]
  clear hv
  have c0 : (x == 224) = false := beq_eq_false_iff_ne.2 (by omega)
  have c1 : (x == 237) = false := beq_eq_false_iff_ne.2 (by omega)
  have c2 : (x == 240) = false := beq_eq_false_iff_ne.2 (by omega)
  have c3 : (x == 244) = false := beq_eq_false_iff_ne.2 (by omega)
  go_enter Tryd.func48, Tryd.ntmps48
  go_wp2_with fail
  refine ax.zero.mono ?_
  rintro e w' ⟨rfl, ⟨m1, rfl⟩⟩
  go_wp2_with fail
  refine (ay.out m1).mono ?_
  rintro e w' ⟨rfl, ⟨m2, rfl⟩⟩
  simp only [World.drewN_drewN]
  go_wp2_with fail
  refine (az.out _).mono ?_
  rintro e w' ⟨rfl, ⟨m3, rfl⟩⟩
  simp only [World.drewN_drewN]
  go_wp2_with fail
  refine (av.out _).mono ?_
  rintro e w' ⟨rfl, ⟨m4, rfl⟩⟩
  simp only [World.drewN_drewN]
  obtain ⟨W, hW⟩ : ∃ W, W = w.drewN (m1 + m2 + m3 + m4) := ⟨_, rfl⟩
  rw [← hW]
  have HW : Aside0 (Drawn0 w W) := ⟨⟨_, hW⟩⟩
  clear hW
  go_wp2_with (first | (go_at_call 61; (first | refine (in_yes _ _ _ _ (by omega) (by omega)).mono ?_ | refine (in_no _ _ _ _ (by omega)).mono ?_); rintro e w' ⟨rfl, ⟨nd, rfl⟩⟩))
  go_ret
  exact ⟨rfl, by repeat (first | exact HW.out | apply Drawn0.step)⟩

set_option maxHeartbeats 4000000 in
set_option maxRecDepth 100000 in
theorem long_b1 (A0 : Option Addr) (n c0 : Nat) (a1 x y z v : Int) (w : World)
    (ax : Gives A0 n c0 w a1 x) (ay : Gives A0 n c0 w (wrap64 (a1 + 1)) y) (az : Gives A0 n c0 w (wrap64 (a1 + 2)) z) (av : Gives A0 n c0 w (wrap64 (a1 + 3)) v)
    (h0 : 194 ≤ x) (h1 : x ≤ 223) (h2 : 128 ≤ y) (h3 : y ≤ 191) :
    Calls Tryd.prog 48 #[.slice A0 n c0, .int .i64 a1] w fun e w' => e = .returned (.int .i64 (longV x y z v)) ∧ Drawn0 w w' := by
  have hv : longV x y z v = 2 := by
    simp only [longV, inV, Bool.and_eq_true, Bool.or_eq_true, decide_eq_true_eq, beq_iff_eq]
    (repeat' split) <;> omega
  rw [hv]
  clear hv
  have c0 : (x == 224) = false := beq_eq_false_iff_ne.2 (by omega)
  have c1 : (x == 237) = false := beq_eq_false_iff_ne.2 (by omega)
  have c2 : (x == 240) = false := beq_eq_false_iff_ne.2 (by omega)
  have c3 : (x == 244) = false := beq_eq_false_iff_ne.2 (by omega)
  go_enter Tryd.func48, Tryd.ntmps48
  go_wp2_with fail
  refine ax.zero.mono ?_
  rintro e w' ⟨rfl, ⟨m1, rfl⟩⟩
  go_wp2_with fail
  refine (ay.out m1).mono ?_
  rintro e w' ⟨rfl, ⟨m2, rfl⟩⟩
  simp only [World.drewN_drewN]
  go_wp2_with fail
  refine (az.out _).mono ?_
  rintro e w' ⟨rfl, ⟨m3, rfl⟩⟩
  simp only [World.drewN_drewN]
  go_wp2_with fail
  refine (av.out _).mono ?_
  rintro e w' ⟨rfl, ⟨m4, rfl⟩⟩
  simp only [World.drewN_drewN]
  obtain ⟨W, hW⟩ : ∃ W, W = w.drewN (m1 + m2 + m3 + m4) := ⟨_, rfl⟩
  rw [← hW]
  have HW : Aside0 (Drawn0 w W) := ⟨⟨_, hW⟩⟩
  clear hW
  go_wp2_with (first | (go_at_call 61; (first | refine (in_yes _ _ _ _ (by omega) (by omega)).mono ?_ | refine (in_no _ _ _ _ (by omega)).mono ?_); rintro e w' ⟨rfl, ⟨nd, rfl⟩⟩))
  go_ret
  exact ⟨rfl, by repeat (first | exact HW.out | apply Drawn0.step)⟩

set_option maxHeartbeats 4000000 in
set_option maxRecDepth 100000 in
theorem long_b2 (A0 : Option Addr) (n c0 : Nat) (a1 x y z v : Int) (w : World)
    (ax : Gives A0 n c0 w a1 x) (ay : Gives A0 n c0 w (wrap64 (a1 + 1)) y) (az : Gives A0 n c0 w (wrap64 (a1 + 2)) z) (av : Gives A0 n c0 w (wrap64 (a1 + 3)) v)
    (h0 : 194 ≤ x) (h1 : x ≤ 223) (h2 : y < 128 ∨ 191 < y) (h3 : z < 128 ∨ 191 < z) :
    Calls Tryd.prog 48 #[.slice A0 n c0, .int .i64 a1] w fun e w' => e = .returned (.int .i64 (longV x y z v)) ∧ Drawn0 w w' := by
  have hv : longV x y z v = 0 := by
    simp only [longV, inV, Bool.and_eq_true, Bool.or_eq_true, decide_eq_true_eq, beq_iff_eq]
    (repeat' split) <;> omega
  rw [hv]
  clear hv
  have c0 : (x == 224) = false := beq_eq_false_iff_ne.2 (by omega)
  have c1 : (x == 237) = false := beq_eq_false_iff_ne.2 (by omega)
  have c2 : (x == 240) = false := beq_eq_false_iff_ne.2 (by omega)
  have c3 : (x == 244) = false := beq_eq_false_iff_ne.2 (by omega)
  go_enter Tryd.func48, Tryd.ntmps48
  go_wp2_with fail
  refine ax.zero.mono ?_
  rintro e w' ⟨rfl, ⟨m1, rfl⟩⟩
  go_wp2_with fail
  refine (ay.out m1).mono ?_
  rintro e w' ⟨rfl, ⟨m2, rfl⟩⟩
  simp only [World.drewN_drewN]
  go_wp2_with fail
  refine (az.out _).mono ?_
  rintro e w' ⟨rfl, ⟨m3, rfl⟩⟩
  simp only [World.drewN_drewN]
  go_wp2_with fail
  refine (av.out _).mono ?_
  rintro e w' ⟨rfl, ⟨m4, rfl⟩⟩
  simp only [World.drewN_drewN]
  obtain ⟨W, hW⟩ : ∃ W, W = w.drewN (m1 + m2 + m3 + m4) := ⟨_, rfl⟩
  rw [← hW]
  have HW : Aside0 (Drawn0 w W) := ⟨⟨_, hW⟩⟩
  clear hW
  go_wp2_with (first | (go_at_call 61; (first | refine (in_yes _ _ _ _ (by omega) (by omega)).mono ?_ | refine (in_no _ _ _ _ (by omega)).mono ?_); rintro e w' ⟨rfl, ⟨nd, rfl⟩⟩))
  go_ret
  exact ⟨rfl, by repeat (first | exact HW.out | apply Drawn0.step)⟩

set_option maxHeartbeats 4000000 in
set_option maxRecDepth 100000 in
theorem long_b3 (A0 : Option Addr) (n c0 : Nat) (a1 x y z v : Int) (w : World)
    (ax : Gives A0 n c0 w a1 x) (ay : Gives A0 n c0 w (wrap64 (a1 + 1)) y) (az : Gives A0 n c0 w (wrap64 (a1 + 2)) z) (av : Gives A0 n c0 w (wrap64 (a1 + 3)) v)
    (h0 : 194 ≤ x) (h1 : x ≤ 223) (h2 : y < 128 ∨ 191 < y) (h3 : 128 ≤ z) (h4 : z ≤ 191) (h5 : v < 128 ∨ 191 < v) :
    Calls Tryd.prog 48 #[.slice A0 n c0, .int .i64 a1] w fun e w' => e = .returned (.int .i64 (longV x y z v)) ∧ Drawn0 w w' := by
  have hv : longV x y z v = 0 := by
    simp only [longV, inV, Bool.and_eq_true, Bool.or_eq_true, decide_eq_true_eq, beq_iff_eq]
    (repeat' split) <;> omega
  rw [hv]
  clear hv
  have c0 : (x == 224) = false := beq_eq_false_iff_ne.2 (by omega)
  have c1 : (x == 237) = false := beq_eq_false_iff_ne.2 (by omega)
  have c2 : (x == 240) = false := beq_eq_false_iff_ne.2 (by omega)
  have c3 : (x == 244) = false := beq_eq_false_iff_ne.2 (by omega)
  go_enter Tryd.func48, Tryd.ntmps48
  go_wp2_with fail
  refine ax.zero.mono ?_
  rintro e w' ⟨rfl, ⟨m1, rfl⟩⟩
  go_wp2_with fail
  refine (ay.out m1).mono ?_
  rintro e w' ⟨rfl, ⟨m2, rfl⟩⟩
  simp only [World.drewN_drewN]
  go_wp2_with fail
  refine (az.out _).mono ?_
  rintro e w' ⟨rfl, ⟨m3, rfl⟩⟩
  simp only [World.drewN_drewN]
  go_wp2_with fail
  refine (av.out _).mono ?_
  rintro e w' ⟨rfl, ⟨m4, rfl⟩⟩
  simp only [World.drewN_drewN]
  obtain ⟨W, hW⟩ : ∃ W, W = w.drewN (m1 + m2 + m3 + m4) := ⟨_, rfl⟩
  rw [← hW]
  have HW : Aside0 (Drawn0 w W) := ⟨⟨_, hW⟩⟩
  clear hW
  go_wp2_with (first | (go_at_call 61; (first | refine (in_yes _ _ _ _ (by omega) (by omega)).mono ?_ | refine (in_no _ _ _ _ (by omega)).mono ?_); rintro e w' ⟨rfl, ⟨nd, rfl⟩⟩))
  go_ret
  exact ⟨rfl, by repeat (first | exact HW.out | apply Drawn0.step)⟩

set_option maxHeartbeats 4000000 in
set_option maxRecDepth 100000 in
theorem long_b4 (A0 : Option Addr) (n c0 : Nat) (a1 x y z v : Int) (w : World)
    (ax : Gives A0 n c0 w a1 x) (ay : Gives A0 n c0 w (wrap64 (a1 + 1)) y) (az : Gives A0 n c0 w (wrap64 (a1 + 2)) z) (av : Gives A0 n c0 w (wrap64 (a1 + 3)) v)
    (h0 : 194 ≤ x) (h1 : x ≤ 223) (h2 : y < 128 ∨ 191 < y) (h3 : 128 ≤ z) (h4 : z ≤ 191) (h5 : 128 ≤ v) (h6 : v ≤ 191) :
    Calls Tryd.prog 48 #[.slice A0 n c0, .int .i64 a1] w fun e w' => e = .returned (.int .i64 (longV x y z v)) ∧ Drawn0 w w' := by
  have hv : longV x y z v = 0 := by
    simp only [longV, inV, Bool.and_eq_true, Bool.or_eq_true, decide_eq_true_eq, beq_iff_eq]
    (repeat' split) <;> omega
  rw [hv]
  clear hv
  have c0 : (x == 224) = false := beq_eq_false_iff_ne.2 (by omega)
  have c1 : (x == 237) = false := beq_eq_false_iff_ne.2 (by omega)
  have c2 : (x == 240) = false := beq_eq_false_iff_ne.2 (by omega)
  have c3 : (x == 244) = false := beq_eq_false_iff_ne.2 (by omega)
  go_enter Tryd.func48, Tryd.ntmps48
  go_wp2_with fail
  refine ax.zero.mono ?_
  rintro e w' ⟨rfl, ⟨m1, rfl⟩⟩
  go_wp2_with fail
  refine (ay.out m1).mono ?_
  rintro e w' ⟨rfl, ⟨m2, rfl⟩⟩
  simp only [World.drewN_drewN]
  go_wp2_with fail
  refine (az.out _).mono ?_
  rintro e w' ⟨rfl, ⟨m3, rfl⟩⟩
  simp only [World.drewN_drewN]
  go_wp2_with fail
  refine (av.out _).mono ?_
  rintro e w' ⟨rfl, ⟨m4, rfl⟩⟩
  simp only [World.drewN_drewN]
  obtain ⟨W, hW⟩ : ∃ W, W = w.drewN (m1 + m2 + m3 + m4) := ⟨_, rfl⟩
  rw [← hW]
  have HW : Aside0 (Drawn0 w W) := ⟨⟨_, hW⟩⟩
  clear hW
  go_wp2_with (first | (go_at_call 61; (first | refine (in_yes _ _ _ _ (by omega) (by omega)).mono ?_ | refine (in_no _ _ _ _ (by omega)).mono ?_); rintro e w' ⟨rfl, ⟨nd, rfl⟩⟩))
  go_ret
  exact ⟨rfl, by repeat (first | exact HW.out | apply Drawn0.step)⟩

set_option maxHeartbeats 4000000 in
set_option maxRecDepth 100000 in
theorem long_c1 (A0 : Option Addr) (n c0 : Nat) (a1 x y z v : Int) (w : World)
    (ax : Gives A0 n c0 w a1 x) (ay : Gives A0 n c0 w (wrap64 (a1 + 1)) y) (az : Gives A0 n c0 w (wrap64 (a1 + 2)) z) (av : Gives A0 n c0 w (wrap64 (a1 + 3)) v)
    (h0 : x = 224) (h1 : z < 128 ∨ 191 < z) :
    Calls Tryd.prog 48 #[.slice A0 n c0, .int .i64 a1] w fun e w' => e = .returned (.int .i64 (longV x y z v)) ∧ Drawn0 w w' := by
  have hv : longV x y z v = 0 := by
    simp only [longV, inV, Bool.and_eq_true, Bool.or_eq_true, decide_eq_true_eq, beq_iff_eq]
    (repeat' split) <;> omega
  rw [hv]
  clear hv
  have c0 : (x == 224) = true := beq_iff_eq.2 (by omega)
  have c1 : (x == 237) = false := beq_eq_false_iff_ne.2 (by omega)
  have c2 : (x == 240) = false := beq_eq_false_iff_ne.2 (by omega)
  have c3 : (x == 244) = false := beq_eq_false_iff_ne.2 (by omega)
  have d0 : 224 ≤ x := by omega
  have e0 : x ≤ 224 := by omega
  clear h0
  go_enter Tryd.func48, Tryd.ntmps48
  go_wp2_with fail
  refine ax.zero.mono ?_
  rintro e w' ⟨rfl, ⟨m1, rfl⟩⟩
  go_wp2_with fail
  refine (ay.out m1).mono ?_
  rintro e w' ⟨rfl, ⟨m2, rfl⟩⟩
  simp only [World.drewN_drewN]
  go_wp2_with fail
  refine (az.out _).mono ?_
  rintro e w' ⟨rfl, ⟨m3, rfl⟩⟩
  simp only [World.drewN_drewN]
  go_wp2_with fail
  refine (av.out _).mono ?_
  rintro e w' ⟨rfl, ⟨m4, rfl⟩⟩
  simp only [World.drewN_drewN]
  obtain ⟨W, hW⟩ : ∃ W, W = w.drewN (m1 + m2 + m3 + m4) := ⟨_, rfl⟩
  rw [← hW]
  have HW : Aside0 (Drawn0 w W) := ⟨⟨_, hW⟩⟩
  clear hW
  go_wp2_with (first | (go_at_call 61; (first | refine (in_yes _ _ _ _ (by omega) (by omega)).mono ?_ | refine (in_no _ _ _ _ (by omega)).mono ?_); rintro e w' ⟨rfl, ⟨nd, rfl⟩⟩))
  go_ret
  exact ⟨rfl, by repeat (first | exact HW.out | apply Drawn0.step)⟩

set_option maxHeartbeats 4000000 in
set_option maxRecDepth 100000 in
theorem long_c2 (A0 : Option Addr) (n c0 : Nat) (a1 x y z v : Int) (w : World)
    (ax : Gives A0 n c0 w a1 x) (ay : Gives A0 n c0 w (wrap64 (a1 + 1)) y) (az : Gives A0 n c0 w (wrap64 (a1 + 2)) z) (av : Gives A0 n c0 w (wrap64 (a1 + 3)) v)
    (h0 : x = 224) (h1 : 128 ≤ z) (h2 : z ≤ 191) (h3 : 160 ≤ y) (h4 : y ≤ 191) :
    Calls Tryd.prog 48 #[.slice A0 n c0, .int .i64 a1] w fun e w' => e = .returned (.int .i64 (longV x y z v)) ∧ Drawn0 w w' := by
  have hv : longV x y z v = 3 := by
    simp only [longV, inV, Bool.and_eq_true, Bool.or_eq_true, decide_eq_true_eq, beq_iff_eq]
    (repeat' split) <;> omega
  rw [hv]
  clear hv
  have c0 : (x == 224) = true := beq_iff_eq.2 (by omega)
  have c1 : (x == 237) = false := beq_eq_false_iff_ne.2 (by omega)
  have c2 : (x == 240) = false := beq_eq_false_iff_ne.2 (by omega)
  have c3 : (x == 244) = false := beq_eq_false_iff_ne.2 (by omega)
  have d0 : 224 ≤ x := by omega
  have e0 : x ≤ 224 := by omega
  clear h0
  go_enter Tryd.func48, Tryd.ntmps48
  go_wp2_with fail
  refine ax.zero.mono ?_
  rintro e w' ⟨rfl, ⟨m1, rfl⟩⟩
  go_wp2_with fail
  refine (ay.out m1).mono ?_
  rintro e w' ⟨rfl, ⟨m2, rfl⟩⟩
  simp only [World.drewN_drewN]
  go_wp2_with fail
  refine (az.out _).mono ?_
  rintro e w' ⟨rfl, ⟨m3, rfl⟩⟩
  simp only [World.drewN_drewN]
  go_wp2_with fail
  refine (av.out _).mono ?_
  rintro e w' ⟨rfl, ⟨m4, rfl⟩⟩
  simp only [World.drewN_drewN]
  obtain ⟨W, hW⟩ : ∃ W, W = w.drewN (m1 + m2 + m3 + m4) := ⟨_, rfl⟩
  rw [← hW]
  have HW : Aside0 (Drawn0 w W) := ⟨⟨_, hW⟩⟩
  clear hW
  go_wp2_with (first | (go_at_call 61; (first | refine (in_yes _ _ _ _ (by omega) (by omega)).mono ?_ | refine (in_no _ _ _ _ (by omega)).mono ?_); rintro e w' ⟨rfl, ⟨nd, rfl⟩⟩))
  go_ret
  exact ⟨rfl, by repeat (first | exact HW.out | apply Drawn0.step)⟩

set_option maxHeartbeats 4000000 in
set_option maxRecDepth 100000 in
theorem long_c3 (A0 : Option Addr) (n c0 : Nat) (a1 x y z v : Int) (w : World)
    (ax : Gives A0 n c0 w a1 x) (ay : Gives A0 n c0 w (wrap64 (a1 + 1)) y) (az : Gives A0 n c0 w (wrap64 (a1 + 2)) z) (av : Gives A0 n c0 w (wrap64 (a1 + 3)) v)
    (h0 : x = 224) (h1 : 128 ≤ z) (h2 : z ≤ 191) (h3 : y < 160 ∨ 191 < y) (h4 : v < 128 ∨ 191 < v) :
    Calls Tryd.prog 48 #[.slice A0 n c0, .int .i64 a1] w fun e w' => e = .returned (.int .i64 (longV x y z v)) ∧ Drawn0 w w' := by
  have hv : longV x y z v = 0 := by
    simp only [longV, inV, Bool.and_eq_true, Bool.or_eq_true, decide_eq_true_eq, beq_iff_eq]
    (repeat' split) <;> omega
  rw [hv]
  clear hv
  have c0 : (x == 224) = true := beq_iff_eq.2 (by omega)
  have c1 : (x == 237) = false := beq_eq_false_iff_ne.2 (by omega)
  have c2 : (x == 240) = false := beq_eq_false_iff_ne.2 (by omega)
  have c3 : (x == 244) = false := beq_eq_false_iff_ne.2 (by omega)
  have d0 : 224 ≤ x := by omega
  have e0 : x ≤ 224 := by omega
  clear h0
  go_enter Tryd.func48, Tryd.ntmps48
  go_wp2_with fail
  refine ax.zero.mono ?_
  rintro e w' ⟨rfl, ⟨m1, rfl⟩⟩
  go_wp2_with fail
  refine (ay.out m1).mono ?_
  rintro e w' ⟨rfl, ⟨m2, rfl⟩⟩
  simp only [World.drewN_drewN]
  go_wp2_with fail
  refine (az.out _).mono ?_
  rintro e w' ⟨rfl, ⟨m3, rfl⟩⟩
  simp only [World.drewN_drewN]
  go_wp2_with fail
  refine (av.out _).mono ?_
  rintro e w' ⟨rfl, ⟨m4, rfl⟩⟩
  simp only [World.drewN_drewN]
  obtain ⟨W, hW⟩ : ∃ W, W = w.drewN (m1 + m2 + m3 + m4) := ⟨_, rfl⟩
  rw [← hW]
  have HW : Aside0 (Drawn0 w W) := ⟨⟨_, hW⟩⟩
  clear hW
  go_wp2_with (first | (go_at_call 61; (first | refine (in_yes _ _ _ _ (by omega) (by omega)).mono ?_ | refine (in_no _ _ _ _ (by omega)).mono ?_); rintro e w' ⟨rfl, ⟨nd, rfl⟩⟩))
  go_ret
  exact ⟨rfl, by repeat (first | exact HW.out | apply Drawn0.step)⟩

set_option maxHeartbeats 4000000 in
set_option maxRecDepth 100000 in
theorem long_c4 (A0 : Option Addr) (n c0 : Nat) (a1 x y z v : Int) (w : World)
    (ax : Gives A0 n c0 w a1 x) (ay : Gives A0 n c0 w (wrap64 (a1 + 1)) y) (az : Gives A0 n c0 w (wrap64 (a1 + 2)) z) (av : Gives A0 n c0 w (wrap64 (a1 + 3)) v)
    (h0 : x = 224) (h1 : 128 ≤ z) (h2 : z ≤ 191) (h3 : y < 160 ∨ 191 < y) (h4 : 128 ≤ v) (h5 : v ≤ 191) :
    Calls Tryd.prog 48 #[.slice A0 n c0, .int .i64 a1] w fun e w' => e = .returned (.int .i64 (longV x y z v)) ∧ Drawn0 w w' := by
  have hv : longV x y z v = 0 := by
    simp only [longV, inV, Bool.and_eq_true, Bool.or_eq_true, decide_eq_true_eq, beq_iff_eq]
    (repeat' split) <;> omega
  rw [hv]
  clear hv
  have c0 : (x == 224) = true := beq_iff_eq.2 (by omega)
  have c1 : (x == 237) = false := beq_eq_false_iff_ne.2 (by omega)
  have c2 : (x == 240) = false := beq_eq_false_iff_ne.2 (by omega)
  have c3 : (x == 244) = false := beq_eq_false_iff_ne.2 (by omega)
  have d0 : 224 ≤ x := by omega
  have e0 : x ≤ 224 := by omega
  clear h0
  go_enter Tryd.func48, Tryd.ntmps48
  go_wp2_with fail
  refine ax.zero.mono ?_
  rintro e w' ⟨rfl, ⟨m1, rfl⟩⟩
  go_wp2_with fail
  refine (ay.out m1).mono ?_
  rintro e w' ⟨rfl, ⟨m2, rfl⟩⟩
  simp only [World.drewN_drewN]
  go_wp2_with fail
  refine (az.out _).mono ?_
  rintro e w' ⟨rfl, ⟨m3, rfl⟩⟩
  simp only [World.drewN_drewN]
  go_wp2_with fail
  refine (av.out _).mono ?_
  rintro e w' ⟨rfl, ⟨m4, rfl⟩⟩
  simp only [World.drewN_drewN]
  obtain ⟨W, hW⟩ : ∃ W, W = w.drewN (m1 + m2 + m3 + m4) := ⟨_, rfl⟩
  rw [← hW]
  have HW : Aside0 (Drawn0 w W) := ⟨⟨_, hW⟩⟩
  clear hW
  go_wp2_with (first | (go_at_call 61; (first | refine (in_yes _ _ _ _ (by omega) (by omega)).mono ?_ | refine (in_no _ _ _ _ (by omega)).mono ?_); rintro e w' ⟨rfl, ⟨nd, rfl⟩⟩))
  go_ret
  exact ⟨rfl, by repeat (first | exact HW.out | apply Drawn0.step)⟩

set_option maxHeartbeats 4000000 in
set_option maxRecDepth 100000 in
theorem long_d1 (A0 : Option Addr) (n c0 : Nat) (a1 x y z v : Int) (w : World)
    (ax : Gives A0 n c0 w a1 x) (ay : Gives A0 n c0 w (wrap64 (a1 + 1)) y) (az : Gives A0 n c0 w (wrap64 (a1 + 2)) z) (av : Gives A0 n c0 w (wrap64 (a1 + 3)) v)
    (h0 : 225 ≤ x) (h1 : x ≤ 236) (h2 : z < 128 ∨ 191 < z) :
    Calls Tryd.prog 48 #[.slice A0 n c0, .int .i64 a1] w fun e w' => e = .returned (.int .i64 (longV x y z v)) ∧ Drawn0 w w' := by
  have hv : longV x y z v = 0 := by
    simp only [longV, inV, Bool.and_eq_true, Bool.or_eq_true, decide_eq_true_eq, beq_iff_eq]
    (repeat' split) <;> omega
  rw [hv]
  clear hv
  have c0 : (x == 224) = false := beq_eq_false_iff_ne.2 (by omega)
  have c1 : (x == 237) = false := beq_eq_false_iff_ne.2 (by omega)
  have c2 : (x == 240) = false := beq_eq_false_iff_ne.2 (by omega)
  have c3 : (x == 244) = false := beq_eq_false_iff_ne.2 (by omega)
  go_enter Tryd.func48, Tryd.ntmps48
  go_wp2_with fail
  refine ax.zero.mono ?_
  rintro e w' ⟨rfl, ⟨m1, rfl⟩⟩
  go_wp2_with fail
  refine (ay.out m1).mono ?_
  rintro e w' ⟨rfl, ⟨m2, rfl⟩⟩
  simp only [World.drewN_drewN]
  go_wp2_with fail
  refine (az.out _).mono ?_
  rintro e w' ⟨rfl, ⟨m3, rfl⟩⟩
  simp only [World.drewN_drewN]
  go_wp2_with fail
  refine (av.out _).mono ?_
  rintro e w' ⟨rfl, ⟨m4, rfl⟩⟩
  simp only [World.drewN_drewN]
  obtain ⟨W, hW⟩ : ∃ W, W = w.drewN (m1 + m2 + m3 + m4) := ⟨_, rfl⟩
  rw [← hW]
  have HW : Aside0 (Drawn0 w W) := ⟨⟨_, hW⟩⟩
  clear hW
  go_wp2_with (first | (go_at_call 61; (first | refine (in_yes _ _ _ _ (by omega) (by omega)).mono ?_ | refine (in_no _ _ _ _ (by omega)).mono ?_); rintro e w' ⟨rfl, ⟨nd, rfl⟩⟩))
  go_ret
  exact ⟨rfl, by repeat (first | exact HW.out | apply Drawn0.step)⟩

set_option maxHeartbeats 4000000 in
set_option maxRecDepth 100000 in
theorem long_d2 (A0 : Option Addr) (n c0 : Nat) (a1 x y z v : Int) (w : World)
    (ax : Gives A0 n c0 w a1 x) (ay : Gives A0 n c0 w (wrap64 (a1 + 1)) y) (az : Gives A0 n c0 w (wrap64 (a1 + 2)) z) (av : Gives A0 n c0 w (wrap64 (a1 + 3)) v)
    (h0 : 225 ≤ x) (h1 : x ≤ 236) (h2 : 128 ≤ z) (h3 : z ≤ 191) (h4 : 128 ≤ y) (h5 : y ≤ 191) :
    Calls Tryd.prog 48 #[.slice A0 n c0, .int .i64 a1] w fun e w' => e = .returned (.int .i64 (longV x y z v)) ∧ Drawn0 w w' := by
  have hv : longV x y z v = 3 := by
    simp only [longV, inV, Bool.and_eq_true, Bool.or_eq_true, decide_eq_true_eq, beq_iff_eq]
    (repeat' split) <;> omega
  rw [hv]
  clear hv
  have c0 : (x == 224) = false := beq_eq_false_iff_ne.2 (by omega)
  have c1 : (x == 237) = false := beq_eq_false_iff_ne.2 (by omega)
  have c2 : (x == 240) = false := beq_eq_false_iff_ne.2 (by omega)
  have c3 : (x == 244) = false := beq_eq_false_iff_ne.2 (by omega)
  go_enter Tryd.func48, Tryd.ntmps48
  go_wp2_with fail
  refine ax.zero.mono ?_
  rintro e w' ⟨rfl, ⟨m1, rfl⟩⟩
  go_wp2_with fail
  refine (ay.out m1).mono ?_
  rintro e w' ⟨rfl, ⟨m2, rfl⟩⟩
  simp only [World.drewN_drewN]
  go_wp2_with fail
  refine (az.out _).mono ?_
  rintro e w' ⟨rfl, ⟨m3, rfl⟩⟩
  simp only [World.drewN_drewN]
  go_wp2_with fail
  refine (av.out _).mono ?_
  rintro e w' ⟨rfl, ⟨m4, rfl⟩⟩
  simp only [World.drewN_drewN]
  obtain ⟨W, hW⟩ : ∃ W, W = w.drewN (m1 + m2 + m3 + m4) := ⟨_, rfl⟩
  rw [← hW]
  have HW : Aside0 (Drawn0 w W) := ⟨⟨_, hW⟩⟩
  clear hW
  go_wp2_with (first | (go_at_call 61; (first | refine (in_yes _ _ _ _ (by omega) (by omega)).mono ?_ | refine (in_no _ _ _ _ (by omega)).mono ?_); rintro e w' ⟨rfl, ⟨nd, rfl⟩⟩))
  go_ret
  exact ⟨rfl, by repeat (first | exact HW.out | apply Drawn0.step)⟩

set_option maxHeartbeats 4000000 in
set_option maxRecDepth 100000 in
theorem long_d3 (A0 : Option Addr) (n c0 : Nat) (a1 x y z v : Int) (w : World)
    (ax : Gives A0 n c0 w a1 x) (ay : Gives A0 n c0 w (wrap64 (a1 + 1)) y) (az : Gives A0 n c0 w (wrap64 (a1 + 2)) z) (av : Gives A0 n c0 w (wrap64 (a1 + 3)) v)
    (h0 : 225 ≤ x) (h1 : x ≤ 236) (h2 : 128 ≤ z) (h3 : z ≤ 191) (h4 : y < 128 ∨ 191 < y) (h5 : v < 128 ∨ 191 < v) :
    Calls Tryd.prog 48 #[.slice A0 n c0, .int .i64 a1] w fun e w' => e = .returned (.int .i64 (longV x y z v)) ∧ Drawn0 w w' := by
  have hv : longV x y z v = 0 := by
    simp only [longV, inV, Bool.and_eq_true, Bool.or_eq_true, decide_eq_true_eq, beq_iff_eq]
    (repeat' split) <;> omega
  rw [hv]
  clear hv
  have c0 : (x == 224) = false := beq_eq_false_iff_ne.2 (by omega)
  have c1 : (x == 237) = false := beq_eq_false_iff_ne.2 (by omega)
  have c2 : (x == 240) = false := beq_eq_false_iff_ne.2 (by omega)
  have c3 : (x == 244) = false := beq_eq_false_iff_ne.2 (by omega)
  go_enter Tryd.func48, Tryd.ntmps48
  go_wp2_with fail
  refine ax.zero.mono ?_
  rintro e w' ⟨rfl, ⟨m1, rfl⟩⟩
  go_wp2_with fail
  refine (ay.out m1).mono ?_
  rintro e w' ⟨rfl, ⟨m2, rfl⟩⟩
  simp only [World.drewN_drewN]
  go_wp2_with fail
  refine (az.out _).mono ?_
  rintro e w' ⟨rfl, ⟨m3, rfl⟩⟩
  simp only [World.drewN_drewN]
  go_wp2_with fail
  refine (av.out _).mono ?_
  rintro e w' ⟨rfl, ⟨m4, rfl⟩⟩
  simp only [World.drewN_drewN]
  obtain ⟨W, hW⟩ : ∃ W, W = w.drewN (m1 + m2 + m3 + m4) := ⟨_, rfl⟩
  rw [← hW]
  have HW : Aside0 (Drawn0 w W) := ⟨⟨_, hW⟩⟩
  clear hW
  go_wp2_with (first | (go_at_call 61; (first | refine (in_yes _ _ _ _ (by omega) (by omega)).mono ?_ | refine (in_no _ _ _ _ (by omega)).mono ?_); rintro e w' ⟨rfl, ⟨nd, rfl⟩⟩))
  go_ret
  exact ⟨rfl, by repeat (first | exact HW.out | apply Drawn0.step)⟩

set_option maxHeartbeats 4000000 in
set_option maxRecDepth 100000 in
theorem long_d4 (A0 : Option Addr) (n c0 : Nat) (a1 x y z v : Int) (w : World)
    (ax : Gives A0 n c0 w a1 x) (ay : Gives A0 n c0 w (wrap64 (a1 + 1)) y) (az : Gives A0 n c0 w (wrap64 (a1 + 2)) z) (av : Gives A0 n c0 w (wrap64 (a1 + 3)) v)
    (h0 : 225 ≤ x) (h1 : x ≤ 236) (h2 : 128 ≤ z) (h3 : z ≤ 191) (h4 : y < 128 ∨ 191 < y) (h5 : 128 ≤ v) (h6 : v ≤ 191) :
    Calls Tryd.prog 48 #[.slice A0 n c0, .int .i64 a1] w fun e w' => e = .returned (.int .i64 (longV x y z v)) ∧ Drawn0 w w' := by
  have hv : longV x y z v = 0 := by
    simp only [longV, inV, Bool.and_eq_true, Bool.or_eq_true, decide_eq_true_eq, beq_iff_eq]
    (repeat' split) <;> omega
  rw [hv]
  clear hv
  have c0 : (x == 224) = false := beq_eq_false_iff_ne.2 (by omega)
  have c1 : (x == 237) = false := beq_eq_false_iff_ne.2 (by omega)
  have c2 : (x == 240) = false := beq_eq_false_iff_ne.2 (by omega)
  have c3 : (x == 244) = false := beq_eq_false_iff_ne.2 (by omega)
  go_enter Tryd.func48, Tryd.ntmps48
  go_wp2_with fail
  refine ax.zero.mono ?_
  rintro e w' ⟨rfl, ⟨m1, rfl⟩⟩
  go_wp2_with fail
  refine (ay.out m1).mono ?_
  rintro e w' ⟨rfl, ⟨m2, rfl⟩⟩
  simp only [World.drewN_drewN]
  go_wp2_with fail
  refine (az.out _).mono ?_
  rintro e w' ⟨rfl, ⟨m3, rfl⟩⟩
  simp only [World.drewN_drewN]
  go_wp2_with fail
  refine (av.out _).mono ?_
  rintro e w' ⟨rfl, ⟨m4, rfl⟩⟩
  simp only [World.drewN_drewN]
  obtain ⟨W, hW⟩ : ∃ W, W = w.drewN (m1 + m2 + m3 + m4) := ⟨_, rfl⟩
  rw [← hW]
  have HW : Aside0 (Drawn0 w W) := ⟨⟨_, hW⟩⟩
  clear hW
  go_wp2_with (first | (go_at_call 61; (first | refine (in_yes _ _ _ _ (by omega) (by omega)).mono ?_ | refine (in_no _ _ _ _ (by omega)).mono ?_); rintro e w' ⟨rfl, ⟨nd, rfl⟩⟩))
  go_ret
  exact ⟨rfl, by repeat (first | exact HW.out | apply Drawn0.step)⟩

set_option maxHeartbeats 4000000 in
set_option maxRecDepth 100000 in
theorem long_e1 (A0 : Option Addr) (n c0 : Nat) (a1 x y z v : Int) (w : World)
    (ax : Gives A0 n c0 w a1 x) (ay : Gives A0 n c0 w (wrap64 (a1 + 1)) y) (az : Gives A0 n c0 w (wrap64 (a1 + 2)) z) (av : Gives A0 n c0 w (wrap64 (a1 + 3)) v)
    (h0 : x = 237) (h1 : z < 128 ∨ 191 < z) :
    Calls Tryd.prog 48 #[.slice A0 n c0, .int .i64 a1] w fun e w' => e = .returned (.int .i64 (longV x y z v)) ∧ Drawn0 w w' := by
  have hv : longV x y z v = 0 := by
    simp only [longV, inV, Bool.and_eq_true, Bool.or_eq_true, decide_eq_true_eq, beq_iff_eq]
    (repeat' split) <;> omega
  rw [hv]
  clear hv
  have c0 : (x == 224) = false := beq_eq_false_iff_ne.2 (by omega)
  have c1 : (x == 237) = true := beq_iff_eq.2 (by omega)
  have c2 : (x == 240) = false := beq_eq_false_iff_ne.2 (by omega)
  have c3 : (x == 244) = false := beq_eq_false_iff_ne.2 (by omega)
  have d0 : 237 ≤ x := by omega
  have e0 : x ≤ 237 := by omega
  clear h0
  go_enter Tryd.func48, Tryd.ntmps48
  go_wp2_with fail
  refine ax.zero.mono ?_
  rintro e w' ⟨rfl, ⟨m1, rfl⟩⟩
  go_wp2_with fail
  refine (ay.out m1).mono ?_
  rintro e w' ⟨rfl, ⟨m2, rfl⟩⟩
  simp only [World.drewN_drewN]
  go_wp2_with fail
  refine (az.out _).mono ?_
  rintro e w' ⟨rfl, ⟨m3, rfl⟩⟩
  simp only [World.drewN_drewN]
  go_wp2_with fail
  refine (av.out _).mono ?_
  rintro e w' ⟨rfl, ⟨m4, rfl⟩⟩
  simp only [World.drewN_drewN]
  obtain ⟨W, hW⟩ : ∃ W, W = w.drewN (m1 + m2 + m3 + m4) := ⟨_, rfl⟩
  rw [← hW]
  have HW : Aside0 (Drawn0 w W) := ⟨⟨_, hW⟩⟩
  clear hW
  go_wp2_with (first | (go_at_call 61; (first | refine (in_yes _ _ _ _ (by omega) (by omega)).mono ?_ | refine (in_no _ _ _ _ (by omega)).mono ?_); rintro e w' ⟨rfl, ⟨nd, rfl⟩⟩))
  go_ret
  exact ⟨rfl, by repeat (first | exact HW.out | apply Drawn0.step)⟩

set_option maxHeartbeats 4000000 in
set_option maxRecDepth 100000 in
theorem long_e2 (A0 : Option Addr) (n c0 : Nat) (a1 x y z v : Int) (w : World)
    (ax : Gives A0 n c0 w a1 x) (ay : Gives A0 n c0 w (wrap64 (a1 + 1)) y) (az : Gives A0 n c0 w (wrap64 (a1 + 2)) z) (av : Gives A0 n c0 w (wrap64 (a1 + 3)) v)
    (h0 : x = 237) (h1 : 128 ≤ z) (h2 : z ≤ 191) (h3 : 128 ≤ y) (h4 : y ≤ 159) :
    Calls Tryd.prog 48 #[.slice A0 n c0, .int .i64 a1] w fun e w' => e = .returned (.int .i64 (longV x y z v)) ∧ Drawn0 w w' := by
  have hv : longV x y z v = 3 := by
    simp only [longV, inV, Bool.and_eq_true, Bool.or_eq_true, decide_eq_true_eq, beq_iff_eq]
    (repeat' split) <;> omega
  rw [hv]
  clear hv
  have c0 : (x == 224) = false := beq_eq_false_iff_ne.2 (by omega)
  have c1 : (x == 237) = true := beq_iff_eq.2 (by omega)
  have c2 : (x == 240) = false := beq_eq_false_iff_ne.2 (by omega)
  have c3 : (x == 244) = false := beq_eq_false_iff_ne.2 (by omega)
  have d0 : 237 ≤ x := by omega
  have e0 : x ≤ 237 := by omega
  clear h0
  go_enter Tryd.func48, Tryd.ntmps48
  go_wp2_with fail
  refine ax.zero.mono ?_
  rintro e w' ⟨rfl, ⟨m1, rfl⟩⟩
  go_wp2_with fail
  refine (ay.out m1).mono ?_
  rintro e w' ⟨rfl, ⟨m2, rfl⟩⟩
  simp only [World.drewN_drewN]
  go_wp2_with fail
  refine (az.out _).mono ?_
  rintro e w' ⟨rfl, ⟨m3, rfl⟩⟩
  simp only [World.drewN_drewN]
  go_wp2_with fail
  refine (av.out _).mono ?_
  rintro e w' ⟨rfl, ⟨m4, rfl⟩⟩
  simp only [World.drewN_drewN]
  obtain ⟨W, hW⟩ : ∃ W, W = w.drewN (m1 + m2 + m3 + m4) := ⟨_, rfl⟩
  rw [← hW]
  have HW : Aside0 (Drawn0 w W) := ⟨⟨_, hW⟩⟩
  clear hW
  go_wp2_with (first | (go_at_call 61; (first | refine (in_yes _ _ _ _ (by omega) (by omega)).mono ?_ | refine (in_no _ _ _ _ (by omega)).mono ?_); rintro e w' ⟨rfl, ⟨nd, rfl⟩⟩))
  go_ret
  exact ⟨rfl, by repeat (first | exact HW.out | apply Drawn0.step)⟩

set_option maxHeartbeats 4000000 in
set_option maxRecDepth 100000 in
theorem long_e3 (A0 : Option Addr) (n c0 : Nat) (a1 x y z v : Int) (w : World)
    (ax : Gives A0 n c0 w a1 x) (ay : Gives A0 n c0 w (wrap64 (a1 + 1)) y) (az : Gives A0 n c0 w (wrap64 (a1 + 2)) z) (av : Gives A0 n c0 w (wrap64 (a1 + 3)) v)
    (h0 : x = 237) (h1 : 128 ≤ z) (h2 : z ≤ 191) (h3 : y < 128 ∨ 159 < y) (h4 : v < 128 ∨ 191 < v) :
    Calls Tryd.prog 48 #[.slice A0 n c0, .int .i64 a1] w fun e w' => e = .returned (.int .i64 (longV x y z v)) ∧ Drawn0 w w' := by
  have hv : longV x y z v = 0 := by
    simp only [longV, inV, Bool.and_eq_true, Bool.or_eq_true, decide_eq_true_eq, beq_iff_eq]
    (repeat' split) <;> omega
  rw [hv]
  clear hv
  have c0 : (x == 224) = false := beq_eq_false_iff_ne.2 (by omega)
  have c1 : (x == 237) = true := beq_iff_eq.2 (by omega)
  have c2 : (x == 240) = false := beq_eq_false_iff_ne.2 (by omega)
  have c3 : (x == 244) = false := beq_eq_false_iff_ne.2 (by omega)
  have d0 : 237 ≤ x := by omega
  have e0 : x ≤ 237 := by omega
  clear h0
  go_enter Tryd.func48, Tryd.ntmps48
  go_wp2_with fail
  refine ax.zero.mono ?_
  rintro e w' ⟨rfl, ⟨m1, rfl⟩⟩
  go_wp2_with fail
  refine (ay.out m1).mono ?_
  rintro e w' ⟨rfl, ⟨m2, rfl⟩⟩
  simp only [World.drewN_drewN]
  go_wp2_with fail
  refine (az.out _).mono ?_
  rintro e w' ⟨rfl, ⟨m3, rfl⟩⟩
  simp only [World.drewN_drewN]
  go_wp2_with fail
  refine (av.out _).mono ?_
  rintro e w' ⟨rfl, ⟨m4, rfl⟩⟩
  simp only [World.drewN_drewN]
  obtain ⟨W, hW⟩ : ∃ W, W = w.drewN (m1 + m2 + m3 + m4) := ⟨_, rfl⟩
  rw [← hW]
  have HW : Aside0 (Drawn0 w W) := ⟨⟨_, hW⟩⟩
  clear hW
  go_wp2_with (first | (go_at_call 61; (first | refine (in_yes _ _ _ _ (by omega) (by omega)).mono ?_ | refine (in_no _ _ _ _ (by omega)).mono ?_); rintro e w' ⟨rfl, ⟨nd, rfl⟩⟩))
  go_ret
  exact ⟨rfl, by repeat (first | exact HW.out | apply Drawn0.step)⟩

set_option maxHeartbeats 4000000 in
set_option maxRecDepth 100000 in
theorem long_e4 (A0 : Option Addr) (n c0 : Nat) (a1 x y z v : Int) (w : World)
    (ax : Gives A0 n c0 w a1 x) (ay : Gives A0 n c0 w (wrap64 (a1 + 1)) y) (az : Gives A0 n c0 w (wrap64 (a1 + 2)) z) (av : Gives A0 n c0 w (wrap64 (a1 + 3)) v)
    (h0 : x = 237) (h1 : 128 ≤ z) (h2 : z ≤ 191) (h3 : y < 128 ∨ 159 < y) (h4 : 128 ≤ v) (h5 : v ≤ 191) :
    Calls Tryd.prog 48 #[.slice A0 n c0, .int .i64 a1] w fun e w' => e = .returned (.int .i64 (longV x y z v)) ∧ Drawn0 w w' := by
  have hv : longV x y z v = 0 := by
    simp only [longV, inV, Bool.and_eq_true, Bool.or_eq_true, decide_eq_true_eq, beq_iff_eq]
    (repeat' split) <;> omega
  rw [hv]
  clear hv
  have c0 : (x == 224) = false := beq_eq_false_iff_ne.2 (by omega)
  have c1 : (x == 237) = true := beq_iff_eq.2 (by omega)
  have c2 : (x == 240) = false := beq_eq_false_iff_ne.2 (by omega)
  have c3 : (x == 244) = false := beq_eq_false_iff_ne.2 (by omega)
  have d0 : 237 ≤ x := by omega
  have e0 : x ≤ 237 := by omega
  clear h0
  go_enter Tryd.func48, Tryd.ntmps48
  go_wp2_with fail
  refine ax.zero.mono ?_
  rintro e w' ⟨rfl, ⟨m1, rfl⟩⟩
  go_wp2_with fail
  refine (ay.out m1).mono ?_
  rintro e w' ⟨rfl, ⟨m2, rfl⟩⟩
  simp only [World.drewN_drewN]
  go_wp2_with fail
  refine (az.out _).mono ?_
  rintro e w' ⟨rfl, ⟨m3, rfl⟩⟩
  simp only [World.drewN_drewN]
  go_wp2_with fail
  refine (av.out _).mono ?_
  rintro e w' ⟨rfl, ⟨m4, rfl⟩⟩
  simp only [World.drewN_drewN]
  obtain ⟨W, hW⟩ : ∃ W, W = w.drewN (m1 + m2 + m3 + m4) := ⟨_, rfl⟩
  rw [← hW]
  have HW : Aside0 (Drawn0 w W) := ⟨⟨_, hW⟩⟩
  clear hW
  go_wp2_with (first | (go_at_call 61; (first | refine (in_yes _ _ _ _ (by omega) (by omega)).mono ?_ | refine (in_no _ _ _ _ (by omega)).mono ?_); rintro e w' ⟨rfl, ⟨nd, rfl⟩⟩))
  go_ret
  exact ⟨rfl, by repeat (first | exact HW.out | apply Drawn0.step)⟩

set_option maxHeartbeats 4000000 in
set_option maxRecDepth 100000 in
theorem long_f1 (A0 : Option Addr) (n c0 : Nat) (a1 x y z v : Int) (w : World)
    (ax : Gives A0 n c0 w a1 x) (ay : Gives A0 n c0 w (wrap64 (a1 + 1)) y) (az : Gives A0 n c0 w (wrap64 (a1 + 2)) z) (av : Gives A0 n c0 w (wrap64 (a1 + 3)) v)
    (h0 : 238 ≤ x) (h1 : x ≤ 239) (h2 : z < 128 ∨ 191 < z) :
    Calls Tryd.prog 48 #[.slice A0 n c0, .int .i64 a1] w fun e w' => e = .returned (.int .i64 (longV x y z v)) ∧ Drawn0 w w' := by
  have hv : longV x y z v = 0 := by
    simp only [longV, inV, Bool.and_eq_true, Bool.or_eq_true, decide_eq_true_eq, beq_iff_eq]
    (repeat' split) <;> omega
  rw [hv]
  clear hv
  have c0 : (x == 224) = false := beq_eq_false_iff_ne.2 (by omega)
  have c1 : (x == 237) = false := beq_eq_false_iff_ne.2 (by omega)
  have c2 : (x == 240) = false := beq_eq_false_iff_ne.2 (by omega)
  have c3 : (x == 244) = false := beq_eq_false_iff_ne.2 (by omega)
  go_enter Tryd.func48, Tryd.ntmps48
  go_wp2_with fail
  refine ax.zero.mono ?_
  rintro e w' ⟨rfl, ⟨m1, rfl⟩⟩
  go_wp2_with fail
  refine (ay.out m1).mono ?_
  rintro e w' ⟨rfl, ⟨m2, rfl⟩⟩
  simp only [World.drewN_drewN]
  go_wp2_with fail
  refine (az.out _).mono ?_
  rintro e w' ⟨rfl, ⟨m3, rfl⟩⟩
  simp only [World.drewN_drewN]
  go_wp2_with fail
  refine (av.out _).mono ?_
  rintro e w' ⟨rfl, ⟨m4, rfl⟩⟩
  simp only [World.drewN_drewN]
  obtain ⟨W, hW⟩ : ∃ W, W = w.drewN (m1 + m2 + m3 + m4) := ⟨_, rfl⟩
  rw [← hW]
  have HW : Aside0 (Drawn0 w W) := ⟨⟨_, hW⟩⟩
  clear hW
  go_wp2_with (first | (go_at_call 61; (first | refine (in_yes _ _ _ _ (by omega) (by omega)).mono ?_ | refine (in_no _ _ _ _ (by omega)).mono ?_); rintro e w' ⟨rfl, ⟨nd, rfl⟩⟩))
  go_ret
  exact ⟨rfl, by repeat (first | exact HW.out | apply Drawn0.step)⟩

set_option maxHeartbeats 4000000 in
set_option maxRecDepth 100000 in
theorem long_f2 (A0 : Option Addr) (n c0 : Nat) (a1 x y z v : Int) (w : World)
    (ax : Gives A0 n c0 w a1 x) (ay : Gives A0 n c0 w (wrap64 (a1 + 1)) y) (az : Gives A0 n c0 w (wrap64 (a1 + 2)) z) (av : Gives A0 n c0 w (wrap64 (a1 + 3)) v)
    (h0 : 238 ≤ x) (h1 : x ≤ 239) (h2 : 128 ≤ z) (h3 : z ≤ 191) (h4 : 128 ≤ y) (h5 : y ≤ 191) :
    Calls Tryd.prog 48 #[.slice A0 n c0, .int .i64 a1] w fun e w' => e = .returned (.int .i64 (longV x y z v)) ∧ Drawn0 w w' := by
  have hv : longV x y z v = 3 := by
    simp only [longV, inV, Bool.and_eq_true, Bool.or_eq_true, decide_eq_true_eq, beq_iff_eq]
    (repeat' split) <;> omega
  rw [hv]
  clear hv
  have c0 : (x == 224) = false := beq_eq_false_iff_ne.2 (by omega)
  have c1 : (x == 237) = false := beq_eq_false_iff_ne.2 (by omega)
  have c2 : (x == 240) = false := beq_eq_false_iff_ne.2 (by omega)
  have c3 : (x == 244) = false := beq_eq_false_iff_ne.2 (by omega)
  go_enter Tryd.func48, Tryd.ntmps48
  go_wp2_with fail
  refine ax.zero.mono ?_
  rintro e w' ⟨rfl, ⟨m1, rfl⟩⟩
  go_wp2_with fail
  refine (ay.out m1).mono ?_
  rintro e w' ⟨rfl, ⟨m2, rfl⟩⟩
  simp only [World.drewN_drewN]
  go_wp2_with fail
  refine (az.out _).mono ?_
  rintro e w' ⟨rfl, ⟨m3, rfl⟩⟩
  simp only [World.drewN_drewN]
  go_wp2_with fail
  refine (av.out _).mono ?_
  rintro e w' ⟨rfl, ⟨m4, rfl⟩⟩
  simp only [World.drewN_drewN]
  obtain ⟨W, hW⟩ : ∃ W, W = w.drewN (m1 + m2 + m3 + m4) := ⟨_, rfl⟩
  rw [← hW]
  have HW : Aside0 (Drawn0 w W) := ⟨⟨_, hW⟩⟩
  clear hW
  go_wp2_with (first | (go_at_call 61; (first | refine (in_yes _ _ _ _ (by omega) (by omega)).mono ?_ | refine (in_no _ _ _ _ (by omega)).mono ?_); rintro e w' ⟨rfl, ⟨nd, rfl⟩⟩))
  go_ret
  exact ⟨rfl, by repeat (first | exact HW.out | apply Drawn0.step)⟩

set_option maxHeartbeats 4000000 in
set_option maxRecDepth 100000 in
theorem long_f3 (A0 : Option Addr) (n c0 : Nat) (a1 x y z v : Int) (w : World)
    (ax : Gives A0 n c0 w a1 x) (ay : Gives A0 n c0 w (wrap64 (a1 + 1)) y) (az : Gives A0 n c0 w (wrap64 (a1 + 2)) z) (av : Gives A0 n c0 w (wrap64 (a1 + 3)) v)
    (h0 : 238 ≤ x) (h1 : x ≤ 239) (h2 : 128 ≤ z) (h3 : z ≤ 191) (h4 : y < 128 ∨ 191 < y) (h5 : v < 128 ∨ 191 < v) :
    Calls Tryd.prog 48 #[.slice A0 n c0, .int .i64 a1] w fun e w' => e = .returned (.int .i64 (longV x y z v)) ∧ Drawn0 w w' := by
  have hv : longV x y z v = 0 := by
    simp only [longV, inV, Bool.and_eq_true, Bool.or_eq_true, decide_eq_true_eq, beq_iff_eq]
    (repeat' split) <;> omega
  rw [hv]
  clear hv
  have c0 : (x == 224) = false := beq_eq_false_iff_ne.2 (by omega)
  have c1 : (x == 237) = false := beq_eq_false_iff_ne.2 (by omega)
  have c2 : (x == 240) = false := beq_eq_false_iff_ne.2 (by omega)
  have c3 : (x == 244) = false := beq_eq_false_iff_ne.2 (by omega)
  go_enter Tryd.func48, Tryd.ntmps48
  go_wp2_with fail
  refine ax.zero.mono ?_
  rintro e w' ⟨rfl, ⟨m1, rfl⟩⟩
  go_wp2_with fail
  refine (ay.out m1).mono ?_
  rintro e w' ⟨rfl, ⟨m2, rfl⟩⟩
  simp only [World.drewN_drewN]
  go_wp2_with fail
  refine (az.out _).mono ?_
  rintro e w' ⟨rfl, ⟨m3, rfl⟩⟩
  simp only [World.drewN_drewN]
  go_wp2_with fail
  refine (av.out _).mono ?_
  rintro e w' ⟨rfl, ⟨m4, rfl⟩⟩
  simp only [World.drewN_drewN]
  obtain ⟨W, hW⟩ : ∃ W, W = w.drewN (m1 + m2 + m3 + m4) := ⟨_, rfl⟩
  rw [← hW]
  have HW : Aside0 (Drawn0 w W) := ⟨⟨_, hW⟩⟩
  clear hW
  go_wp2_with (first | (go_at_call 61; (first | refine (in_yes _ _ _ _ (by omega) (by omega)).mono ?_ | refine (in_no _ _ _ _ (by omega)).mono ?_); rintro e w' ⟨rfl, ⟨nd, rfl⟩⟩))
  go_ret
  exact ⟨rfl, by repeat (first | exact HW.out | apply Drawn0.step)⟩

set_option maxHeartbeats 4000000 in
set_option maxRecDepth 100000 in
theorem long_f4 (A0 : Option Addr) (n c0 : Nat) (a1 x y z v : Int) (w : World)
    (ax : Gives A0 n c0 w a1 x) (ay : Gives A0 n c0 w (wrap64 (a1 + 1)) y) (az : Gives A0 n c0 w (wrap64 (a1 + 2)) z) (av : Gives A0 n c0 w (wrap64 (a1 + 3)) v)
    (h0 : 238 ≤ x) (h1 : x ≤ 239) (h2 : 128 ≤ z) (h3 : z ≤ 191) (h4 : y < 128 ∨ 191 < y) (h5 : 128 ≤ v) (h6 : v ≤ 191) :
    Calls Tryd.prog 48 #[.slice A0 n c0, .int .i64 a1] w fun e w' => e = .returned (.int .i64 (longV x y z v)) ∧ Drawn0 w w' := by
  have hv : longV x y z v = 0 := by
    simp only [longV, inV, Bool.and_eq_true, Bool.or_eq_true, decide_eq_true_eq, beq_iff_eq]
    (repeat' split) <;> omega
  rw [hv]
  clear hv
  have c0 : (x == 224) = false := beq_eq_false_iff_ne.2 (by omega)
  have c1 : (x == 237) = false := beq_eq_false_iff_ne.2 (by omega)
  have c2 : (x == 240) = false := beq_eq_false_iff_ne.2 (by omega)
  have c3 : (x == 244) = false := beq_eq_false_iff_ne.2 (by omega)
  go_enter Tryd.func48, Tryd.ntmps48
  go_wp2_with fail
  refine ax.zero.mono ?_
  rintro e w' ⟨rfl, ⟨m1, rfl⟩⟩
  go_wp2_with fail
  refine (ay.out m1).mono ?_
  rintro e w' ⟨rfl, ⟨m2, rfl⟩⟩
  simp only [World.drewN_drewN]
  go_wp2_with fail
  refine (az.out _).mono ?_
  rintro e w' ⟨rfl, ⟨m3, rfl⟩⟩
  simp only [World.drewN_drewN]
  go_wp2_with fail
  refine (av.out _).mono ?_
  rintro e w' ⟨rfl, ⟨m4, rfl⟩⟩
  simp only [World.drewN_drewN]
  obtain ⟨W, hW⟩ : ∃ W, W = w.drewN (m1 + m2 + m3 + m4) := ⟨_, rfl⟩
  rw [← hW]
  have HW : Aside0 (Drawn0 w W) := ⟨⟨_, hW⟩⟩
  clear hW
  go_wp2_with (first | (go_at_call 61; (first | refine (in_yes _ _ _ _ (by omega) (by omega)).mono ?_ | refine (in_no _ _ _ _ (by omega)).mono ?_); rintro e w' ⟨rfl, ⟨nd, rfl⟩⟩))
  go_ret
  exact ⟨rfl, by repeat (first | exact HW.out | apply Drawn0.step)⟩

set_option maxHeartbeats 4000000 in
set_option maxRecDepth 100000 in
theorem long_g1 (A0 : Option Addr) (n c0 : Nat) (a1 x y z v : Int) (w : World)
    (ax : Gives A0 n c0 w a1 x) (ay : Gives A0 n c0 w (wrap64 (a1 + 1)) y) (az : Gives A0 n c0 w (wrap64 (a1 + 2)) z) (av : Gives A0 n c0 w (wrap64 (a1 + 3)) v)
    (h0 : x = 240) (h1 : z < 128 ∨ 191 < z) :
    Calls Tryd.prog 48 #[.slice A0 n c0, .int .i64 a1] w fun e w' => e = .returned (.int .i64 (longV x y z v)) ∧ Drawn0 w w' := by
  have hv : longV x y z v = 0 := by
    simp only [longV, inV, Bool.and_eq_true, Bool.or_eq_true, decide_eq_true_eq, beq_iff_eq]
    (repeat' split) <;> omega
  rw [hv]
  clear hv
  have c0 : (x == 224) = false := beq_eq_false_iff_ne.2 (by omega)
  have c1 : (x == 237) = false := beq_eq_false_iff_ne.2 (by omega)
  have c2 : (x == 240) = true := beq_iff_eq.2 (by omega)
  have c3 : (x == 244) = false := beq_eq_false_iff_ne.2 (by omega)
  have d0 : 240 ≤ x := by omega
  have e0 : x ≤ 240 := by omega
  clear h0
  go_enter Tryd.func48, Tryd.ntmps48
  go_wp2_with fail
  refine ax.zero.mono ?_
  rintro e w' ⟨rfl, ⟨m1, rfl⟩⟩
  go_wp2_with fail
  refine (ay.out m1).mono ?_
  rintro e w' ⟨rfl, ⟨m2, rfl⟩⟩
  simp only [World.drewN_drewN]
  go_wp2_with fail
  refine (az.out _).mono ?_
  rintro e w' ⟨rfl, ⟨m3, rfl⟩⟩
  simp only [World.drewN_drewN]
  go_wp2_with fail
  refine (av.out _).mono ?_
  rintro e w' ⟨rfl, ⟨m4, rfl⟩⟩
  simp only [World.drewN_drewN]
  obtain ⟨W, hW⟩ : ∃ W, W = w.drewN (m1 + m2 + m3 + m4) := ⟨_, rfl⟩
  rw [← hW]
  have HW : Aside0 (Drawn0 w W) := ⟨⟨_, hW⟩⟩
  clear hW
  go_wp2_with (first | (go_at_call 61; (first | refine (in_yes _ _ _ _ (by omega) (by omega)).mono ?_ | refine (in_no _ _ _ _ (by omega)).mono ?_); rintro e w' ⟨rfl, ⟨nd, rfl⟩⟩))
  go_ret
  exact ⟨rfl, by repeat (first | exact HW.out | apply Drawn0.step)⟩

set_option maxHeartbeats 4000000 in
set_option maxRecDepth 100000 in
theorem long_g2 (A0 : Option Addr) (n c0 : Nat) (a1 x y z v : Int) (w : World)
    (ax : Gives A0 n c0 w a1 x) (ay : Gives A0 n c0 w (wrap64 (a1 + 1)) y) (az : Gives A0 n c0 w (wrap64 (a1 + 2)) z) (av : Gives A0 n c0 w (wrap64 (a1 + 3)) v)
    (h0 : x = 240) (h1 : 128 ≤ z) (h2 : z ≤ 191) (h3 : v < 128 ∨ 191 < v) :
    Calls Tryd.prog 48 #[.slice A0 n c0, .int .i64 a1] w fun e w' => e = .returned (.int .i64 (longV x y z v)) ∧ Drawn0 w w' := by
  have hv : longV x y z v = 0 := by
    simp only [longV, inV, Bool.and_eq_true, Bool.or_eq_true, decide_eq_true_eq, beq_iff_eq]
    (repeat' split) <;> omega
  rw [hv]
  clear hv
  have c0 : (x == 224) = false := beq_eq_false_iff_ne.2 (by omega)
  have c1 : (x == 237) = false := beq_eq_false_iff_ne.2 (by omega)
  have c2 : (x == 240) = true := beq_iff_eq.2 (by omega)
  have c3 : (x == 244) = false := beq_eq_false_iff_ne.2 (by omega)
  have d0 : 240 ≤ x := by omega
  have e0 : x ≤ 240 := by omega
  clear h0
  go_enter Tryd.func48, Tryd.ntmps48
  go_wp2_with fail
  refine ax.zero.mono ?_
  rintro e w' ⟨rfl, ⟨m1, rfl⟩⟩
  go_wp2_with fail
  refine (ay.out m1).mono ?_
  rintro e w' ⟨rfl, ⟨m2, rfl⟩⟩
  simp only [World.drewN_drewN]
  go_wp2_with fail
  refine (az.out _).mono ?_
  rintro e w' ⟨rfl, ⟨m3, rfl⟩⟩
  simp only [World.drewN_drewN]
  go_wp2_with fail
  refine (av.out _).mono ?_
  rintro e w' ⟨rfl, ⟨m4, rfl⟩⟩
  simp only [World.drewN_drewN]
  obtain ⟨W, hW⟩ : ∃ W, W = w.drewN (m1 + m2 + m3 + m4) := ⟨_, rfl⟩
  rw [← hW]
  have HW : Aside0 (Drawn0 w W) := ⟨⟨_, hW⟩⟩
  clear hW
  go_wp2_with (first | (go_at_call 61; (first | refine (in_yes _ _ _ _ (by omega) (by omega)).mono ?_ | refine (in_no _ _ _ _ (by omega)).mono ?_); rintro e w' ⟨rfl, ⟨nd, rfl⟩⟩))
  go_ret
  exact ⟨rfl, by repeat (first | exact HW.out | apply Drawn0.step)⟩

set_option maxHeartbeats 4000000 in
set_option maxRecDepth 100000 in
theorem long_g3 (A0 : Option Addr) (n c0 : Nat) (a1 x y z v : Int) (w : World)
    (ax : Gives A0 n c0 w a1 x) (ay : Gives A0 n c0 w (wrap64 (a1 + 1)) y) (az : Gives A0 n c0 w (wrap64 (a1 + 2)) z) (av : Gives A0 n c0 w (wrap64 (a1 + 3)) v)
    (h0 : x = 240) (h1 : 128 ≤ z) (h2 : z ≤ 191) (h3 : 128 ≤ v) (h4 : v ≤ 191) (h5 : 144 ≤ y) (h6 : y ≤ 191) :
    Calls Tryd.prog 48 #[.slice A0 n c0, .int .i64 a1] w fun e w' => e = .returned (.int .i64 (longV x y z v)) ∧ Drawn0 w w' := by
  have hv : longV x y z v = 4 := by
    simp only [longV, inV, Bool.and_eq_true, Bool.or_eq_true, decide_eq_true_eq, beq_iff_eq]
    (repeat' split) <;> omega
  rw [hv]
  clear hv
  have c0 : (x == 224) = false := beq_eq_false_iff_ne.2 (by omega)
  have c1 : (x == 237) = false := beq_eq_false_iff_ne.2 (by omega)
  have c2 : (x == 240) = true := beq_iff_eq.2 (by omega)
  have c3 : (x == 244) = false := beq_eq_false_iff_ne.2 (by omega)
  have d0 : 240 ≤ x := by omega
  have e0 : x ≤ 240 := by omega
  clear h0
  go_enter Tryd.func48, Tryd.ntmps48
  go_wp2_with fail
  refine ax.zero.mono ?_
  rintro e w' ⟨rfl, ⟨m1, rfl⟩⟩
  go_wp2_with fail
  refine (ay.out m1).mono ?_
  rintro e w' ⟨rfl, ⟨m2, rfl⟩⟩
  simp only [World.drewN_drewN]
  go_wp2_with fail
  refine (az.out _).mono ?_
  rintro e w' ⟨rfl, ⟨m3, rfl⟩⟩
  simp only [World.drewN_drewN]
  go_wp2_with fail
  refine (av.out _).mono ?_
  rintro e w' ⟨rfl, ⟨m4, rfl⟩⟩
  simp only [World.drewN_drewN]
  obtain ⟨W, hW⟩ : ∃ W, W = w.drewN (m1 + m2 + m3 + m4) := ⟨_, rfl⟩
  rw [← hW]
  have HW : Aside0 (Drawn0 w W) := ⟨⟨_, hW⟩⟩
  clear hW
  go_wp2_with (first | (go_at_call 61; (first | refine (in_yes _ _ _ _ (by omega) (by omega)).mono ?_ | refine (in_no _ _ _ _ (by omega)).mono ?_); rintro e w' ⟨rfl, ⟨nd, rfl⟩⟩))
  go_ret
  exact ⟨rfl, by repeat (first | exact HW.out | apply Drawn0.step)⟩

set_option maxHeartbeats 4000000 in
set_option maxRecDepth 100000 in
theorem long_g4 (A0 : Option Addr) (n c0 : Nat) (a1 x y z v : Int) (w : World)
    (ax : Gives A0 n c0 w a1 x) (ay : Gives A0 n c0 w (wrap64 (a1 + 1)) y) (az : Gives A0 n c0 w (wrap64 (a1 + 2)) z) (av : Gives A0 n c0 w (wrap64 (a1 + 3)) v)
    (h0 : x = 240) (h1 : 128 ≤ z) (h2 : z ≤ 191) (h3 : 128 ≤ v) (h4 : v ≤ 191) (h5 : y < 144 ∨ 191 < y) :
    Calls Tryd.prog 48 #[.slice A0 n c0, .int .i64 a1] w fun e w' => e = .returned (.int .i64 (longV x y z v)) ∧ Drawn0 w w' := by
  have hv : longV x y z v = 0 := by
    simp only [longV, inV, Bool.and_eq_true, Bool.or_eq_true, decide_eq_true_eq, beq_iff_eq]
    (repeat' split) <;> omega
  rw [hv]
  clear hv
  have c0 : (x == 224) = false := beq_eq_false_iff_ne.2 (by omega)
  have c1 : (x == 237) = false := beq_eq_false_iff_ne.2 (by omega)
  have c2 : (x == 240) = true := beq_iff_eq.2 (by omega)
  have c3 : (x == 244) = false := beq_eq_false_iff_ne.2 (by omega)
  have d0 : 240 ≤ x := by omega
  have e0 : x ≤ 240 := by omega
  clear h0
  go_enter Tryd.func48, Tryd.ntmps48
  go_wp2_with fail
  refine ax.zero.mono ?_
  rintro e w' ⟨rfl, ⟨m1, rfl⟩⟩
  go_wp2_with fail
  refine (ay.out m1).mono ?_
  rintro e w' ⟨rfl, ⟨m2, rfl⟩⟩
  simp only [World.drewN_drewN]
  go_wp2_with fail
  refine (az.out _).mono ?_
  rintro e w' ⟨rfl, ⟨m3, rfl⟩⟩
  simp only [World.drewN_drewN]
  go_wp2_with fail
  refine (av.out _).mono ?_
  rintro e w' ⟨rfl, ⟨m4, rfl⟩⟩
  simp only [World.drewN_drewN]
  obtain ⟨W, hW⟩ : ∃ W, W = w.drewN (m1 + m2 + m3 + m4) := ⟨_, rfl⟩
  rw [← hW]
  have HW : Aside0 (Drawn0 w W) := ⟨⟨_, hW⟩⟩
  clear hW
  go_wp2_with (first | (go_at_call 61; (first | refine (in_yes _ _ _ _ (by omega) (by omega)).mono ?_ | refine (in_no _ _ _ _ (by omega)).mono ?_); rintro e w' ⟨rfl, ⟨nd, rfl⟩⟩))
  go_ret
  exact ⟨rfl, by repeat (first | exact HW.out | apply Drawn0.step)⟩

set_option maxHeartbeats 4000000 in
set_option maxRecDepth 100000 in
theorem long_h1 (A0 : Option Addr) (n c0 : Nat) (a1 x y z v : Int) (w : World)
    (ax : Gives A0 n c0 w a1 x) (ay : Gives A0 n c0 w (wrap64 (a1 + 1)) y) (az : Gives A0 n c0 w (wrap64 (a1 + 2)) z) (av : Gives A0 n c0 w (wrap64 (a1 + 3)) v)
    (h0 : 241 ≤ x) (h1 : x ≤ 243) (h2 : z < 128 ∨ 191 < z) :
    Calls Tryd.prog 48 #[.slice A0 n c0, .int .i64 a1] w fun e w' => e = .returned (.int .i64 (longV x y z v)) ∧ Drawn0 w w' := by
  have hv : longV x y z v = 0 := by
    simp only [longV, inV, Bool.and_eq_true, Bool.or_eq_true, decide_eq_true_eq, beq_iff_eq]
    (repeat' split) <;> omega
  rw [hv]
  clear hv
  have c0 : (x == 224) = false := beq_eq_false_iff_ne.2 (by omega)
  have c1 : (x == 237) = false := beq_eq_false_iff_ne.2 (by omega)
  have c2 : (x == 240) = false := beq_eq_false_iff_ne.2 (by omega)
  have c3 : (x == 244) = false := beq_eq_false_iff_ne.2 (by omega)
  go_enter Tryd.func48, Tryd.ntmps48
  go_wp2_with fail
  refine ax.zero.mono ?_
  rintro e w' ⟨rfl, ⟨m1, rfl⟩⟩
  go_wp2_with fail
  refine (ay.out m1).mono ?_
  rintro e w' ⟨rfl, ⟨m2, rfl⟩⟩
  simp only [World.drewN_drewN]
  go_wp2_with fail
  refine (az.out _).mono ?_
  rintro e w' ⟨rfl, ⟨m3, rfl⟩⟩
  simp only [World.drewN_drewN]
  go_wp2_with fail
  refine (av.out _).mono ?_
  rintro e w' ⟨rfl, ⟨m4, rfl⟩⟩
  simp only [World.drewN_drewN]
  obtain ⟨W, hW⟩ : ∃ W, W = w.drewN (m1 + m2 + m3 + m4) := ⟨_, rfl⟩
  rw [← hW]
  have HW : Aside0 (Drawn0 w W) := ⟨⟨_, hW⟩⟩
  clear hW
  go_wp2_with (first | (go_at_call 61; (first | refine (in_yes _ _ _ _ (by omega) (by omega)).mono ?_ | refine (in_no _ _ _ _ (by omega)).mono ?_); rintro e w' ⟨rfl, ⟨nd, rfl⟩⟩))
  go_ret
  exact ⟨rfl, by repeat (first | exact HW.out | apply Drawn0.step)⟩

set_option maxHeartbeats 4000000 in
set_option maxRecDepth 100000 in
theorem long_h2 (A0 : Option Addr) (n c0 : Nat) (a1 x y z v : Int) (w : World)
    (ax : Gives A0 n c0 w a1 x) (ay : Gives A0 n c0 w (wrap64 (a1 + 1)) y) (az : Gives A0 n c0 w (wrap64 (a1 + 2)) z) (av : Gives A0 n c0 w (wrap64 (a1 + 3)) v)
    (h0 : 241 ≤ x) (h1 : x ≤ 243) (h2 : 128 ≤ z) (h3 : z ≤ 191) (h4 : v < 128 ∨ 191 < v) :
    Calls Tryd.prog 48 #[.slice A0 n c0, .int .i64 a1] w fun e w' => e = .returned (.int .i64 (longV x y z v)) ∧ Drawn0 w w' := by
  have hv : longV x y z v = 0 := by
    simp only [longV, inV, Bool.and_eq_true, Bool.or_eq_true, decide_eq_true_eq, beq_iff_eq]
    (repeat' split) <;> omega
  rw [hv]
  clear hv
  have c0 : (x == 224) = false := beq_eq_false_iff_ne.2 (by omega)
  have c1 : (x == 237) = false := beq_eq_false_iff_ne.2 (by omega)
  have c2 : (x == 240) = false := beq_eq_false_iff_ne.2 (by omega)
  have c3 : (x == 244) = false := beq_eq_false_iff_ne.2 (by omega)
  go_enter Tryd.func48, Tryd.ntmps48
  go_wp2_with fail
  refine ax.zero.mono ?_
  rintro e w' ⟨rfl, ⟨m1, rfl⟩⟩
  go_wp2_with fail
  refine (ay.out m1).mono ?_
  rintro e w' ⟨rfl, ⟨m2, rfl⟩⟩
  simp only [World.drewN_drewN]
  go_wp2_with fail
  refine (az.out _).mono ?_
  rintro e w' ⟨rfl, ⟨m3, rfl⟩⟩
  simp only [World.drewN_drewN]
  go_wp2_with fail
  refine (av.out _).mono ?_
  rintro e w' ⟨rfl, ⟨m4, rfl⟩⟩
  simp only [World.drewN_drewN]
  obtain ⟨W, hW⟩ : ∃ W, W = w.drewN (m1 + m2 + m3 + m4) := ⟨_, rfl⟩
  rw [← hW]
  have HW : Aside0 (Drawn0 w W) := ⟨⟨_, hW⟩⟩
  clear hW
  go_wp2_with (first | (go_at_call 61; (first | refine (in_yes _ _ _ _ (by omega) (by omega)).mono ?_ | refine (in_no _ _ _ _ (by omega)).mono ?_); rintro e w' ⟨rfl, ⟨nd, rfl⟩⟩))
  go_ret
  exact ⟨rfl, by repeat (first | exact HW.out | apply Drawn0.step)⟩

set_option maxHeartbeats 4000000 in
set_option maxRecDepth 100000 in
theorem long_h3 (A0 : Option Addr) (n c0 : Nat) (a1 x y z v : Int) (w : World)
    (ax : Gives A0 n c0 w a1 x) (ay : Gives A0 n c0 w (wrap64 (a1 + 1)) y) (az : Gives A0 n c0 w (wrap64 (a1 + 2)) z) (av : Gives A0 n c0 w (wrap64 (a1 + 3)) v)
    (h0 : 241 ≤ x) (h1 : x ≤ 243) (h2 : 128 ≤ z) (h3 : z ≤ 191) (h4 : 128 ≤ v) (h5 : v ≤ 191) (h6 : 128 ≤ y) (h7 : y ≤ 191) :
    Calls Tryd.prog 48 #[.slice A0 n c0, .int .i64 a1] w fun e w' => e = .returned (.int .i64 (longV x y z v)) ∧ Drawn0 w w' := by
  have hv : longV x y z v = 4 := by
    simp only [longV, inV, Bool.and_eq_true, Bool.or_eq_true, decide_eq_true_eq, beq_iff_eq]
    (repeat' split) <;> omega
  rw [hv]
  clear hv
  have c0 : (x == 224) = false := beq_eq_false_iff_ne.2 (by omega)
  have c1 : (x == 237) = false := beq_eq_false_iff_ne.2 (by omega)
  have c2 : (x == 240) = false := beq_eq_false_iff_ne.2 (by omega)
  have c3 : (x == 244) = false := beq_eq_false_iff_ne.2 (by omega)
  go_enter Tryd.func48, Tryd.ntmps48
  go_wp2_with fail
  refine ax.zero.mono ?_
  rintro e w' ⟨rfl, ⟨m1, rfl⟩⟩
  go_wp2_with fail
  refine (ay.out m1).mono ?_
  rintro e w' ⟨rfl, ⟨m2, rfl⟩⟩
  simp only [World.drewN_drewN]
  go_wp2_with fail
  refine (az.out _).mono ?_
  rintro e w' ⟨rfl, ⟨m3, rfl⟩⟩
  simp only [World.drewN_drewN]
  go_wp2_with fail
  refine (av.out _).mono ?_
  rintro e w' ⟨rfl, ⟨m4, rfl⟩⟩
  simp only [World.drewN_drewN]
  obtain ⟨W, hW⟩ : ∃ W, W = w.drewN (m1 + m2 + m3 + m4) := ⟨_, rfl⟩
  rw [← hW]
  have HW : Aside0 (Drawn0 w W) := ⟨⟨_, hW⟩⟩
  clear hW
  go_wp2_with (first | (go_at_call 61; (first | refine (in_yes _ _ _ _ (by omega) (by omega)).mono ?_ | refine (in_no _ _ _ _ (by omega)).mono ?_); rintro e w' ⟨rfl, ⟨nd, rfl⟩⟩))
  go_ret
  exact ⟨rfl, by repeat (first | exact HW.out | apply Drawn0.step)⟩

set_option maxHeartbeats 4000000 in
set_option maxRecDepth 100000 in
theorem long_h4 (A0 : Option Addr) (n c0 : Nat) (a1 x y z v : Int) (w : World)
    (ax : Gives A0 n c0 w a1 x) (ay : Gives A0 n c0 w (wrap64 (a1 + 1)) y) (az : Gives A0 n c0 w (wrap64 (a1 + 2)) z) (av : Gives A0 n c0 w (wrap64 (a1 + 3)) v)
    (h0 : 241 ≤ x) (h1 : x ≤ 243) (h2 : 128 ≤ z) (h3 : z ≤ 191) (h4 : 128 ≤ v) (h5 : v ≤ 191) (h6 : y < 128 ∨ 191 < y) :
    Calls Tryd.prog 48 #[.slice A0 n c0, .int .i64 a1] w fun e w' => e = .returned (.int .i64 (longV x y z v)) ∧ Drawn0 w w' := by
  have hv : longV x y z v = 0 := by
    simp only [longV, inV, Bool.and_eq_true, Bool.or_eq_true, decide_eq_true_eq, beq_iff_eq]
    (repeat' split) <;> omega
  rw [hv]
  clear hv
  have c0 : (x == 224) = false := beq_eq_false_iff_ne.2 (by omega)
  have c1 : (x == 237) = false := beq_eq_false_iff_ne.2 (by omega)
  have c2 : (x == 240) = false := beq_eq_false_iff_ne.2 (by omega)
  have c3 : (x == 244) = false := beq_eq_false_iff_ne.2 (by omega)
  go_enter Tryd.func48, Tryd.ntmps48
  go_wp2_with fail
  refine ax.zero.mono ?_
  rintro e w' ⟨rfl, ⟨m1, rfl⟩⟩
  go_wp2_with fail
  refine (ay.out m1).mono ?_
  rintro e w' ⟨rfl, ⟨m2, rfl⟩⟩
  simp only [World.drewN_drewN]
  go_wp2_with fail
  refine (az.out _).mono ?_
  rintro e w' ⟨rfl, ⟨m3, rfl⟩⟩
  simp only [World.drewN_drewN]
  go_wp2_with fail
  refine (av.out _).mono ?_
  rintro e w' ⟨rfl, ⟨m4, rfl⟩⟩
  simp only [World.drewN_drewN]
  obtain ⟨W, hW⟩ : ∃ W, W = w.drewN (m1 + m2 + m3 + m4) := ⟨_, rfl⟩
  rw [← hW]
  have HW : Aside0 (Drawn0 w W) := ⟨⟨_, hW⟩⟩
  clear hW
  go_wp2_with (first | (go_at_call 61; (first | refine (in_yes _ _ _ _ (by omega) (by omega)).mono ?_ | refine (in_no _ _ _ _ (by omega)).mono ?_); rintro e w' ⟨rfl, ⟨nd, rfl⟩⟩))
  go_ret
  exact ⟨rfl, by repeat (first | exact HW.out | apply Drawn0.step)⟩

set_option maxHeartbeats 4000000 in
set_option maxRecDepth 100000 in
theorem long_i1 (A0 : Option Addr) (n c0 : Nat) (a1 x y z v : Int) (w : World)
    (ax : Gives A0 n c0 w a1 x) (ay : Gives A0 n c0 w (wrap64 (a1 + 1)) y) (az : Gives A0 n c0 w (wrap64 (a1 + 2)) z) (av : Gives A0 n c0 w (wrap64 (a1 + 3)) v)
    (h0 : x = 244) (h1 : z < 128 ∨ 191 < z) :
    Calls Tryd.prog 48 #[.slice A0 n c0, .int .i64 a1] w fun e w' => e = .returned (.int .i64 (longV x y z v)) ∧ Drawn0 w w' := by
  have hv : longV x y z v = 0 := by
    simp only [longV, inV, Bool.and_eq_true, Bool.or_eq_true, decide_eq_true_eq, beq_iff_eq]
    (repeat' split) <;> omega
  rw [hv]
  clear hv
  have c0 : (x == 224) = false := beq_eq_false_iff_ne.2 (by omega)
  have c1 : (x == 237) = false := beq_eq_false_iff_ne.2 (by omega)
  have c2 : (x == 240) = false := beq_eq_false_iff_ne.2 (by omega)
  have c3 : (x == 244) = true := beq_iff_eq.2 (by omega)
  have d0 : 244 ≤ x := by omega
  have e0 : x ≤ 244 := by omega
  clear h0
  go_enter Tryd.func48, Tryd.ntmps48
  go_wp2_with fail
  refine ax.zero.mono ?_
  rintro e w' ⟨rfl, ⟨m1, rfl⟩⟩
  go_wp2_with fail
  refine (ay.out m1).mono ?_
  rintro e w' ⟨rfl, ⟨m2, rfl⟩⟩
  simp only [World.drewN_drewN]
  go_wp2_with fail
  refine (az.out _).mono ?_
  rintro e w' ⟨rfl, ⟨m3, rfl⟩⟩
  simp only [World.drewN_drewN]
  go_wp2_with fail
  refine (av.out _).mono ?_
  rintro e w' ⟨rfl, ⟨m4, rfl⟩⟩
  simp only [World.drewN_drewN]
  obtain ⟨W, hW⟩ : ∃ W, W = w.drewN (m1 + m2 + m3 + m4) := ⟨_, rfl⟩
  rw [← hW]
  have HW : Aside0 (Drawn0 w W) := ⟨⟨_, hW⟩⟩
  clear hW
  go_wp2_with (first | (go_at_call 61; (first | refine (in_yes _ _ _ _ (by omega) (by omega)).mono ?_ | refine (in_no _ _ _ _ (by omega)).mono ?_); rintro e w' ⟨rfl, ⟨nd, rfl⟩⟩))
  go_ret
  exact ⟨rfl, by repeat (first | exact HW.out | apply Drawn0.step)⟩

set_option maxHeartbeats 4000000 in
set_option maxRecDepth 100000 in
theorem long_i2 (A0 : Option Addr) (n c0 : Nat) (a1 x y z v : Int) (w : World)
    (ax : Gives A0 n c0 w a1 x) (ay : Gives A0 n c0 w (wrap64 (a1 + 1)) y) (az : Gives A0 n c0 w (wrap64 (a1 + 2)) z) (av : Gives A0 n c0 w (wrap64 (a1 + 3)) v)
    (h0 : x = 244) (h1 : 128 ≤ z) (h2 : z ≤ 191) (h3 : v < 128 ∨ 191 < v) :
    Calls Tryd.prog 48 #[.slice A0 n c0, .int .i64 a1] w fun e w' => e = .returned (.int .i64 (longV x y z v)) ∧ Drawn0 w w' := by
  have hv : longV x y z v = 0 := by
    simp only [longV, inV, Bool.and_eq_true, Bool.or_eq_true, decide_eq_true_eq, beq_iff_eq]
    (repeat' split) <;> omega
  rw [hv]
  clear hv
  have c0 : (x == 224) = false := beq_eq_false_iff_ne.2 (by omega)
  have c1 : (x == 237) = false := beq_eq_false_iff_ne.2 (by omega)
  have c2 : (x == 240) = false := beq_eq_false_iff_ne.2 (by omega)
  have c3 : (x == 244) = true := beq_iff_eq.2 (by omega)
  have d0 : 244 ≤ x := by omega
  have e0 : x ≤ 244 := by omega
  clear h0
  go_enter Tryd.func48, Tryd.ntmps48
  go_wp2_with fail
  refine ax.zero.mono ?_
  rintro e w' ⟨rfl, ⟨m1, rfl⟩⟩
  go_wp2_with fail
  refine (ay.out m1).mono ?_
  rintro e w' ⟨rfl, ⟨m2, rfl⟩⟩
  simp only [World.drewN_drewN]
  go_wp2_with fail
  refine (az.out _).mono ?_
  rintro e w' ⟨rfl, ⟨m3, rfl⟩⟩
  simp only [World.drewN_drewN]
  go_wp2_with fail
  refine (av.out _).mono ?_
  rintro e w' ⟨rfl, ⟨m4, rfl⟩⟩
  simp only [World.drewN_drewN]
  obtain ⟨W, hW⟩ : ∃ W, W = w.drewN (m1 + m2 + m3 + m4) := ⟨_, rfl⟩
  rw [← hW]
  have HW : Aside0 (Drawn0 w W) := ⟨⟨_, hW⟩⟩
  clear hW
  go_wp2_with (first | (go_at_call 61; (first | refine (in_yes _ _ _ _ (by omega) (by omega)).mono ?_ | refine (in_no _ _ _ _ (by omega)).mono ?_); rintro e w' ⟨rfl, ⟨nd, rfl⟩⟩))
  go_ret
  exact ⟨rfl, by repeat (first | exact HW.out | apply Drawn0.step)⟩

set_option maxHeartbeats 4000000 in
set_option maxRecDepth 100000 in
theorem long_i3 (A0 : Option Addr) (n c0 : Nat) (a1 x y z v : Int) (w : World)
    (ax : Gives A0 n c0 w a1 x) (ay : Gives A0 n c0 w (wrap64 (a1 + 1)) y) (az : Gives A0 n c0 w (wrap64 (a1 + 2)) z) (av : Gives A0 n c0 w (wrap64 (a1 + 3)) v)
    (h0 : x = 244) (h1 : 128 ≤ z) (h2 : z ≤ 191) (h3 : 128 ≤ v) (h4 : v ≤ 191) (h5 : 128 ≤ y) (h6 : y ≤ 143) :
    Calls Tryd.prog 48 #[.slice A0 n c0, .int .i64 a1] w fun e w' => e = .returned (.int .i64 (longV x y z v)) ∧ Drawn0 w w' := by
  have hv : longV x y z v = 4 := by
    simp only [longV, inV, Bool.and_eq_true, Bool.or_eq_true, decide_eq_true_eq, beq_iff_eq]
    (repeat' split) <;> omega
  rw [hv]
  clear hv
  have c0 : (x == 224) = false := beq_eq_false_iff_ne.2 (by omega)
  have c1 : (x == 237) = false := beq_eq_false_iff_ne.2 (by omega)
  have c2 : (x == 240) = false := beq_eq_false_iff_ne.2 (by omega)
  have c3 : (x == 244) = true := beq_iff_eq.2 (by omega)
  have d0 : 244 ≤ x := by omega
  have e0 : x ≤ 244 := by omega
  clear h0
  go_enter Tryd.func48, Tryd.ntmps48
  go_wp2_with fail
  refine ax.zero.mono ?_
  rintro e w' ⟨rfl, ⟨m1, rfl⟩⟩
  go_wp2_with fail
  refine (ay.out m1).mono ?_
  rintro e w' ⟨rfl, ⟨m2, rfl⟩⟩
  simp only [World.drewN_drewN]
  go_wp2_with fail
  refine (az.out _).mono ?_
  rintro e w' ⟨rfl, ⟨m3, rfl⟩⟩
  simp only [World.drewN_drewN]
  go_wp2_with fail
  refine (av.out _).mono ?_
  rintro e w' ⟨rfl, ⟨m4, rfl⟩⟩
  simp only [World.drewN_drewN]
  obtain ⟨W, hW⟩ : ∃ W, W = w.drewN (m1 + m2 + m3 + m4) := ⟨_, rfl⟩
  rw [← hW]
  have HW : Aside0 (Drawn0 w W) := ⟨⟨_, hW⟩⟩
  clear hW
  go_wp2_with (first | (go_at_call 61; (first | refine (in_yes _ _ _ _ (by omega) (by omega)).mono ?_ | refine (in_no _ _ _ _ (by omega)).mono ?_); rintro e w' ⟨rfl, ⟨nd, rfl⟩⟩))
  go_ret
  exact ⟨rfl, by repeat (first | exact HW.out | apply Drawn0.step)⟩

set_option maxHeartbeats 4000000 in
set_option maxRecDepth 100000 in
theorem long_i4 (A0 : Option Addr) (n c0 : Nat) (a1 x y z v : Int) (w : World)
    (ax : Gives A0 n c0 w a1 x) (ay : Gives A0 n c0 w (wrap64 (a1 + 1)) y) (az : Gives A0 n c0 w (wrap64 (a1 + 2)) z) (av : Gives A0 n c0 w (wrap64 (a1 + 3)) v)
    (h0 : x = 244) (h1 : 128 ≤ z) (h2 : z ≤ 191) (h3 : 128 ≤ v) (h4 : v ≤ 191) (h5 : y < 128 ∨ 143 < y) :
    Calls Tryd.prog 48 #[.slice A0 n c0, .int .i64 a1] w fun e w' => e = .returned (.int .i64 (longV x y z v)) ∧ Drawn0 w w' := by
  have hv : longV x y z v = 0 := by
    simp only [longV, inV, Bool.and_eq_true, Bool.or_eq_true, decide_eq_true_eq, beq_iff_eq]
    (repeat' split) <;> omega
  rw [hv]
  clear hv
  have c0 : (x == 224) = false := beq_eq_false_iff_ne.2 (by omega)
  have c1 : (x == 237) = false := beq_eq_false_iff_ne.2 (by omega)
  have c2 : (x == 240) = false := beq_eq_false_iff_ne.2 (by omega)
  have c3 : (x == 244) = true := beq_iff_eq.2 (by omega)
  have d0 : 244 ≤ x := by omega
  have e0 : x ≤ 244 := by omega
  clear h0
  go_enter Tryd.func48, Tryd.ntmps48
  go_wp2_with fail
  refine ax.zero.mono ?_
  rintro e w' ⟨rfl, ⟨m1, rfl⟩⟩
  go_wp2_with fail
  refine (ay.out m1).mono ?_
  rintro e w' ⟨rfl, ⟨m2, rfl⟩⟩
  simp only [World.drewN_drewN]
  go_wp2_with fail
  refine (az.out _).mono ?_
  rintro e w' ⟨rfl, ⟨m3, rfl⟩⟩
  simp only [World.drewN_drewN]
  go_wp2_with fail
  refine (av.out _).mono ?_
  rintro e w' ⟨rfl, ⟨m4, rfl⟩⟩
  simp only [World.drewN_drewN]
  obtain ⟨W, hW⟩ : ∃ W, W = w.drewN (m1 + m2 + m3 + m4) := ⟨_, rfl⟩
  rw [← hW]
  have HW : Aside0 (Drawn0 w W) := ⟨⟨_, hW⟩⟩
  clear hW
  go_wp2_with (first | (go_at_call 61; (first | refine (in_yes _ _ _ _ (by omega) (by omega)).mono ?_ | refine (in_no _ _ _ _ (by omega)).mono ?_); rintro e w' ⟨rfl, ⟨nd, rfl⟩⟩))
  go_ret
  exact ⟨rfl, by repeat (first | exact HW.out | apply Drawn0.step)⟩

set_option maxHeartbeats 4000000 in
set_option maxRecDepth 100000 in
theorem long_j1 (A0 : Option Addr) (n c0 : Nat) (a1 x y z v : Int) (w : World)
    (ax : Gives A0 n c0 w a1 x) (ay : Gives A0 n c0 w (wrap64 (a1 + 1)) y) (az : Gives A0 n c0 w (wrap64 (a1 + 2)) z) (av : Gives A0 n c0 w (wrap64 (a1 + 3)) v)
    (h0 : x < 0) (h1 : z < 128 ∨ 191 < z) :
    Calls Tryd.prog 48 #[.slice A0 n c0, .int .i64 a1] w fun e w' => e = .returned (.int .i64 (longV x y z v)) ∧ Drawn0 w w' := by
  have hv : longV x y z v = 0 := by
    simp only [longV, inV, Bool.and_eq_true, Bool.or_eq_true, decide_eq_true_eq, beq_iff_eq]
    (repeat' split) <;> omega
  rw [hv]
  clear hv
  have c0 : (x == 224) = false := beq_eq_false_iff_ne.2 (by omega)
  have c1 : (x == 237) = false := beq_eq_false_iff_ne.2 (by omega)
  have c2 : (x == 240) = false := beq_eq_false_iff_ne.2 (by omega)
  have c3 : (x == 244) = false := beq_eq_false_iff_ne.2 (by omega)
  go_enter Tryd.func48, Tryd.ntmps48
  go_wp2_with fail
  refine ax.zero.mono ?_
  rintro e w' ⟨rfl, ⟨m1, rfl⟩⟩
  go_wp2_with fail
  refine (ay.out m1).mono ?_
  rintro e w' ⟨rfl, ⟨m2, rfl⟩⟩
  simp only [World.drewN_drewN]
  go_wp2_with fail
  refine (az.out _).mono ?_
  rintro e w' ⟨rfl, ⟨m3, rfl⟩⟩
  simp only [World.drewN_drewN]
  go_wp2_with fail
  refine (av.out _).mono ?_
  rintro e w' ⟨rfl, ⟨m4, rfl⟩⟩
  simp only [World.drewN_drewN]
  obtain ⟨W, hW⟩ : ∃ W, W = w.drewN (m1 + m2 + m3 + m4) := ⟨_, rfl⟩
  rw [← hW]
  have HW : Aside0 (Drawn0 w W) := ⟨⟨_, hW⟩⟩
  clear hW
  go_wp2_with (first | (go_at_call 61; (first | refine (in_yes _ _ _ _ (by omega) (by omega)).mono ?_ | refine (in_no _ _ _ _ (by omega)).mono ?_); rintro e w' ⟨rfl, ⟨nd, rfl⟩⟩))
  go_ret
  exact ⟨rfl, by repeat (first | exact HW.out | apply Drawn0.step)⟩

set_option maxHeartbeats 4000000 in
set_option maxRecDepth 100000 in
theorem long_j2 (A0 : Option Addr) (n c0 : Nat) (a1 x y z v : Int) (w : World)
    (ax : Gives A0 n c0 w a1 x) (ay : Gives A0 n c0 w (wrap64 (a1 + 1)) y) (az : Gives A0 n c0 w (wrap64 (a1 + 2)) z) (av : Gives A0 n c0 w (wrap64 (a1 + 3)) v)
    (h0 : x < 0) (h1 : 128 ≤ z) (h2 : z ≤ 191) (h3 : v < 128 ∨ 191 < v) :
    Calls Tryd.prog 48 #[.slice A0 n c0, .int .i64 a1] w fun e w' => e = .returned (.int .i64 (longV x y z v)) ∧ Drawn0 w w' := by
  have hv : longV x y z v = 0 := by
    simp only [longV, inV, Bool.and_eq_true, Bool.or_eq_true, decide_eq_true_eq, beq_iff_eq]
    (repeat' split) <;> omega
  rw [hv]
  clear hv
  have c0 : (x == 224) = false := beq_eq_false_iff_ne.2 (by omega)
  have c1 : (x == 237) = false := beq_eq_false_iff_ne.2 (by omega)
  have c2 : (x == 240) = false := beq_eq_false_iff_ne.2 (by omega)
  have c3 : (x == 244) = false := beq_eq_false_iff_ne.2 (by omega)
  go_enter Tryd.func48, Tryd.ntmps48
  go_wp2_with fail
  refine ax.zero.mono ?_
  rintro e w' ⟨rfl, ⟨m1, rfl⟩⟩
  go_wp2_with fail
  refine (ay.out m1).mono ?_
  rintro e w' ⟨rfl, ⟨m2, rfl⟩⟩
  simp only [World.drewN_drewN]
  go_wp2_with fail
  refine (az.out _).mono ?_
  rintro e w' ⟨rfl, ⟨m3, rfl⟩⟩
  simp only [World.drewN_drewN]
  go_wp2_with fail
  refine (av.out _).mono ?_
  rintro e w' ⟨rfl, ⟨m4, rfl⟩⟩
  simp only [World.drewN_drewN]
  obtain ⟨W, hW⟩ : ∃ W, W = w.drewN (m1 + m2 + m3 + m4) := ⟨_, rfl⟩
  rw [← hW]
  have HW : Aside0 (Drawn0 w W) := ⟨⟨_, hW⟩⟩
  clear hW
  go_wp2_with (first | (go_at_call 61; (first | refine (in_yes _ _ _ _ (by omega) (by omega)).mono ?_ | refine (in_no _ _ _ _ (by omega)).mono ?_); rintro e w' ⟨rfl, ⟨nd, rfl⟩⟩))
  go_ret
  exact ⟨rfl, by repeat (first | exact HW.out | apply Drawn0.step)⟩

set_option maxHeartbeats 4000000 in
set_option maxRecDepth 100000 in
theorem long_j3 (A0 : Option Addr) (n c0 : Nat) (a1 x y z v : Int) (w : World)
    (ax : Gives A0 n c0 w a1 x) (ay : Gives A0 n c0 w (wrap64 (a1 + 1)) y) (az : Gives A0 n c0 w (wrap64 (a1 + 2)) z) (av : Gives A0 n c0 w (wrap64 (a1 + 3)) v)
    (h0 : x < 0) (h1 : 128 ≤ z) (h2 : z ≤ 191) (h3 : 128 ≤ v) (h4 : v ≤ 191) :
    Calls Tryd.prog 48 #[.slice A0 n c0, .int .i64 a1] w fun e w' => e = .returned (.int .i64 (longV x y z v)) ∧ Drawn0 w w' := by
  have hv : longV x y z v = 0 := by
    simp only [longV, inV, Bool.and_eq_true, Bool.or_eq_true, decide_eq_true_eq, beq_iff_eq]
    (repeat' split) <;> omega
  rw [hv]
  clear hv
  have c0 : (x == 224) = false := beq_eq_false_iff_ne.2 (by omega)
  have c1 : (x == 237) = false := beq_eq_false_iff_ne.2 (by omega)
  have c2 : (x == 240) = false := beq_eq_false_iff_ne.2 (by omega)
  have c3 : (x == 244) = false := beq_eq_false_iff_ne.2 (by omega)
  go_enter Tryd.func48, Tryd.ntmps48
  go_wp2_with fail
  refine ax.zero.mono ?_
  rintro e w' ⟨rfl, ⟨m1, rfl⟩⟩
  go_wp2_with fail
  refine (ay.out m1).mono ?_
  rintro e w' ⟨rfl, ⟨m2, rfl⟩⟩
  simp only [World.drewN_drewN]
  go_wp2_with fail
  refine (az.out _).mono ?_
  rintro e w' ⟨rfl, ⟨m3, rfl⟩⟩
  simp only [World.drewN_drewN]
  go_wp2_with fail
  refine (av.out _).mono ?_
  rintro e w' ⟨rfl, ⟨m4, rfl⟩⟩
  simp only [World.drewN_drewN]
  obtain ⟨W, hW⟩ : ∃ W, W = w.drewN (m1 + m2 + m3 + m4) := ⟨_, rfl⟩
  rw [← hW]
  have HW : Aside0 (Drawn0 w W) := ⟨⟨_, hW⟩⟩
  clear hW
  go_wp2_with (first | (go_at_call 61; (first | refine (in_yes _ _ _ _ (by omega) (by omega)).mono ?_ | refine (in_no _ _ _ _ (by omega)).mono ?_); rintro e w' ⟨rfl, ⟨nd, rfl⟩⟩))
  go_ret
  exact ⟨rfl, by repeat (first | exact HW.out | apply Drawn0.step)⟩

set_option maxHeartbeats 4000000 in
set_option maxRecDepth 100000 in
theorem long_k1 (A0 : Option Addr) (n c0 : Nat) (a1 x y z v : Int) (w : World)
    (ax : Gives A0 n c0 w a1 x) (ay : Gives A0 n c0 w (wrap64 (a1 + 1)) y) (az : Gives A0 n c0 w (wrap64 (a1 + 2)) z) (av : Gives A0 n c0 w (wrap64 (a1 + 3)) v)
    (h0 : 127 < x) (h1 : x < 194) (h2 : z < 128 ∨ 191 < z) :
    Calls Tryd.prog 48 #[.slice A0 n c0, .int .i64 a1] w fun e w' => e = .returned (.int .i64 (longV x y z v)) ∧ Drawn0 w w' := by
  have hv : longV x y z v = 0 := by
    simp only [longV, inV, Bool.and_eq_true, Bool.or_eq_true, decide_eq_true_eq, beq_iff_eq]
    (repeat' split) <;> omega
  rw [hv]
  clear hv
  have c0 : (x == 224) = false := beq_eq_false_iff_ne.2 (by omega)
  have c1 : (x == 237) = false := beq_eq_false_iff_ne.2 (by omega)
  have c2 : (x == 240) = false := beq_eq_false_iff_ne.2 (by omega)
  have c3 : (x == 244) = false := beq_eq_false_iff_ne.2 (by omega)
  go_enter Tryd.func48, Tryd.ntmps48
  go_wp2_with fail
  refine ax.zero.mono ?_
  rintro e w' ⟨rfl, ⟨m1, rfl⟩⟩
  go_wp2_with fail
  refine (ay.out m1).mono ?_
  rintro e w' ⟨rfl, ⟨m2, rfl⟩⟩
  simp only [World.drewN_drewN]
  go_wp2_with fail
  refine (az.out _).mono ?_
  rintro e w' ⟨rfl, ⟨m3, rfl⟩⟩
  simp only [World.drewN_drewN]
  go_wp2_with fail
  refine (av.out _).mono ?_
  rintro e w' ⟨rfl, ⟨m4, rfl⟩⟩
  simp only [World.drewN_drewN]
  obtain ⟨W, hW⟩ : ∃ W, W = w.drewN (m1 + m2 + m3 + m4) := ⟨_, rfl⟩
  rw [← hW]
  have HW : Aside0 (Drawn0 w W) := ⟨⟨_, hW⟩⟩
  clear hW
  go_wp2_with (first | (go_at_call 61; (first | refine (in_yes _ _ _ _ (by omega) (by omega)).mono ?_ | refine (in_no _ _ _ _ (by omega)).mono ?_); rintro e w' ⟨rfl, ⟨nd, rfl⟩⟩))
  go_ret
  exact ⟨rfl, by repeat (first | exact HW.out | apply Drawn0.step)⟩

set_option maxHeartbeats 4000000 in
set_option maxRecDepth 100000 in
theorem long_k2 (A0 : Option Addr) (n c0 : Nat) (a1 x y z v : Int) (w : World)
    (ax : Gives A0 n c0 w a1 x) (ay : Gives A0 n c0 w (wrap64 (a1 + 1)) y) (az : Gives A0 n c0 w (wrap64 (a1 + 2)) z) (av : Gives A0 n c0 w (wrap64 (a1 + 3)) v)
    (h0 : 127 < x) (h1 : x < 194) (h2 : 128 ≤ z) (h3 : z ≤ 191) (h4 : v < 128 ∨ 191 < v) :
    Calls Tryd.prog 48 #[.slice A0 n c0, .int .i64 a1] w fun e w' => e = .returned (.int .i64 (longV x y z v)) ∧ Drawn0 w w' := by
  have hv : longV x y z v = 0 := by
    simp only [longV, inV, Bool.and_eq_true, Bool.or_eq_true, decide_eq_true_eq, beq_iff_eq]
    (repeat' split) <;> omega
  rw [hv]
  clear hv
  have c0 : (x == 224) = false := beq_eq_false_iff_ne.2 (by omega)
  have c1 : (x == 237) = false := beq_eq_false_iff_ne.2 (by omega)
  have c2 : (x == 240) = false := beq_eq_false_iff_ne.2 (by omega)
  have c3 : (x == 244) = false := beq_eq_false_iff_ne.2 (by omega)
  go_enter Tryd.func48, Tryd.ntmps48
  go_wp2_with fail
  refine ax.zero.mono ?_
  rintro e w' ⟨rfl, ⟨m1, rfl⟩⟩
  go_wp2_with fail
  refine (ay.out m1).mono ?_
  rintro e w' ⟨rfl, ⟨m2, rfl⟩⟩
  simp only [World.drewN_drewN]
  go_wp2_with fail
  refine (az.out _).mono ?_
  rintro e w' ⟨rfl, ⟨m3, rfl⟩⟩
  simp only [World.drewN_drewN]
  go_wp2_with fail
  refine (av.out _).mono ?_
  rintro e w' ⟨rfl, ⟨m4, rfl⟩⟩
  simp only [World.drewN_drewN]
  obtain ⟨W, hW⟩ : ∃ W, W = w.drewN (m1 + m2 + m3 + m4) := ⟨_, rfl⟩
  rw [← hW]
  have HW : Aside0 (Drawn0 w W) := ⟨⟨_, hW⟩⟩
  clear hW
  go_wp2_with (first | (go_at_call 61; (first | refine (in_yes _ _ _ _ (by omega) (by omega)).mono ?_ | refine (in_no _ _ _ _ (by omega)).mono ?_); rintro e w' ⟨rfl, ⟨nd, rfl⟩⟩))
  go_ret
  exact ⟨rfl, by repeat (first | exact HW.out | apply Drawn0.step)⟩

set_option maxHeartbeats 4000000 in
set_option maxRecDepth 100000 in
theorem long_k3 (A0 : Option Addr) (n c0 : Nat) (a1 x y z v : Int) (w : World)
    (ax : Gives A0 n c0 w a1 x) (ay : Gives A0 n c0 w (wrap64 (a1 + 1)) y) (az : Gives A0 n c0 w (wrap64 (a1 + 2)) z) (av : Gives A0 n c0 w (wrap64 (a1 + 3)) v)
    (h0 : 127 < x) (h1 : x < 194) (h2 : 128 ≤ z) (h3 : z ≤ 191) (h4 : 128 ≤ v) (h5 : v ≤ 191) :
    Calls Tryd.prog 48 #[.slice A0 n c0, .int .i64 a1] w fun e w' => e = .returned (.int .i64 (longV x y z v)) ∧ Drawn0 w w' := by
  have hv : longV x y z v = 0 := by
    simp only [longV, inV, Bool.and_eq_true, Bool.or_eq_true, decide_eq_true_eq, beq_iff_eq]
    (repeat' split) <;> omega
  rw [hv]
  clear hv
  have c0 : (x == 224) = false := beq_eq_false_iff_ne.2 (by omega)
  have c1 : (x == 237) = false := beq_eq_false_iff_ne.2 (by omega)
  have c2 : (x == 240) = false := beq_eq_false_iff_ne.2 (by omega)
  have c3 : (x == 244) = false := beq_eq_false_iff_ne.2 (by omega)
  go_enter Tryd.func48, Tryd.ntmps48
  go_wp2_with fail
  refine ax.zero.mono ?_
  rintro e w' ⟨rfl, ⟨m1, rfl⟩⟩
  go_wp2_with fail
  refine (ay.out m1).mono ?_
  rintro e w' ⟨rfl, ⟨m2, rfl⟩⟩
  simp only [World.drewN_drewN]
  go_wp2_with fail
  refine (az.out _).mono ?_
  rintro e w' ⟨rfl, ⟨m3, rfl⟩⟩
  simp only [World.drewN_drewN]
  go_wp2_with fail
  refine (av.out _).mono ?_
  rintro e w' ⟨rfl, ⟨m4, rfl⟩⟩
  simp only [World.drewN_drewN]
  obtain ⟨W, hW⟩ : ∃ W, W = w.drewN (m1 + m2 + m3 + m4) := ⟨_, rfl⟩
  rw [← hW]
  have HW : Aside0 (Drawn0 w W) := ⟨⟨_, hW⟩⟩
  clear hW
  go_wp2_with (first | (go_at_call 61; (first | refine (in_yes _ _ _ _ (by omega) (by omega)).mono ?_ | refine (in_no _ _ _ _ (by omega)).mono ?_); rintro e w' ⟨rfl, ⟨nd, rfl⟩⟩))
  go_ret
  exact ⟨rfl, by repeat (first | exact HW.out | apply Drawn0.step)⟩

set_option maxHeartbeats 4000000 in
set_option maxRecDepth 100000 in
theorem long_l1 (A0 : Option Addr) (n c0 : Nat) (a1 x y z v : Int) (w : World)
    (ax : Gives A0 n c0 w a1 x) (ay : Gives A0 n c0 w (wrap64 (a1 + 1)) y) (az : Gives A0 n c0 w (wrap64 (a1 + 2)) z) (av : Gives A0 n c0 w (wrap64 (a1 + 3)) v)
    (h0 : 244 < x) (h1 : z < 128 ∨ 191 < z) :
    Calls Tryd.prog 48 #[.slice A0 n c0, .int .i64 a1] w fun e w' => e = .returned (.int .i64 (longV x y z v)) ∧ Drawn0 w w' := by
  have hv : longV x y z v = 0 := by
    simp only [longV, inV, Bool.and_eq_true, Bool.or_eq_true, decide_eq_true_eq, beq_iff_eq]
    (repeat' split) <;> omega
  rw [hv]
  clear hv
  have c0 : (x == 224) = false := beq_eq_false_iff_ne.2 (by omega)
  have c1 : (x == 237) = false := beq_eq_false_iff_ne.2 (by omega)
  have c2 : (x == 240) = false := beq_eq_false_iff_ne.2 (by omega)
  have c3 : (x == 244) = false := beq_eq_false_iff_ne.2 (by omega)
  go_enter Tryd.func48, Tryd.ntmps48
  go_wp2_with fail
  refine ax.zero.mono ?_
  rintro e w' ⟨rfl, ⟨m1, rfl⟩⟩
  go_wp2_with fail
  refine (ay.out m1).mono ?_
  rintro e w' ⟨rfl, ⟨m2, rfl⟩⟩
  simp only [World.drewN_drewN]
  go_wp2_with fail
  refine (az.out _).mono ?_
  rintro e w' ⟨rfl, ⟨m3, rfl⟩⟩
  simp only [World.drewN_drewN]
  go_wp2_with fail
  refine (av.out _).mono ?_
  rintro e w' ⟨rfl, ⟨m4, rfl⟩⟩
  simp only [World.drewN_drewN]
  obtain ⟨W, hW⟩ : ∃ W, W = w.drewN (m1 + m2 + m3 + m4) := ⟨_, rfl⟩
  rw [← hW]
  have HW : Aside0 (Drawn0 w W) := ⟨⟨_, hW⟩⟩
  clear hW
  go_wp2_with (first | (go_at_call 61; (first | refine (in_yes _ _ _ _ (by omega) (by omega)).mono ?_ | refine (in_no _ _ _ _ (by omega)).mono ?_); rintro e w' ⟨rfl, ⟨nd, rfl⟩⟩))
  go_ret
  exact ⟨rfl, by repeat (first | exact HW.out | apply Drawn0.step)⟩

set_option maxHeartbeats 4000000 in
set_option maxRecDepth 100000 in
theorem long_l2 (A0 : Option Addr) (n c0 : Nat) (a1 x y z v : Int) (w : World)
    (ax : Gives A0 n c0 w a1 x) (ay : Gives A0 n c0 w (wrap64 (a1 + 1)) y) (az : Gives A0 n c0 w (wrap64 (a1 + 2)) z) (av : Gives A0 n c0 w (wrap64 (a1 + 3)) v)
    (h0 : 244 < x) (h1 : 128 ≤ z) (h2 : z ≤ 191) (h3 : v < 128 ∨ 191 < v) :
    Calls Tryd.prog 48 #[.slice A0 n c0, .int .i64 a1] w fun e w' => e = .returned (.int .i64 (longV x y z v)) ∧ Drawn0 w w' := by
  have hv : longV x y z v = 0 := by
    simp only [longV, inV, Bool.and_eq_true, Bool.or_eq_true, decide_eq_true_eq, beq_iff_eq]
    (repeat' split) <;> omega
  rw [hv]
  clear hv
  have c0 : (x == 224) = false := beq_eq_false_iff_ne.2 (by omega)
  have c1 : (x == 237) = false := beq_eq_false_iff_ne.2 (by omega)
  have c2 : (x == 240) = false := beq_eq_false_iff_ne.2 (by omega)
  have c3 : (x == 244) = false := beq_eq_false_iff_ne.2 (by omega)
  go_enter Tryd.func48, Tryd.ntmps48
  go_wp2_with fail
  refine ax.zero.mono ?_
  rintro e w' ⟨rfl, ⟨m1, rfl⟩⟩
  go_wp2_with fail
  refine (ay.out m1).mono ?_
  rintro e w' ⟨rfl, ⟨m2, rfl⟩⟩
  simp only [World.drewN_drewN]
  go_wp2_with fail
  refine (az.out _).mono ?_
  rintro e w' ⟨rfl, ⟨m3, rfl⟩⟩
  simp only [World.drewN_drewN]
  go_wp2_with fail
  refine (av.out _).mono ?_
  rintro e w' ⟨rfl, ⟨m4, rfl⟩⟩
  simp only [World.drewN_drewN]
  obtain ⟨W, hW⟩ : ∃ W, W = w.drewN (m1 + m2 + m3 + m4) := ⟨_, rfl⟩
  rw [← hW]
  have HW : Aside0 (Drawn0 w W) := ⟨⟨_, hW⟩⟩
  clear hW
  go_wp2_with (first | (go_at_call 61; (first | refine (in_yes _ _ _ _ (by omega) (by omega)).mono ?_ | refine (in_no _ _ _ _ (by omega)).mono ?_); rintro e w' ⟨rfl, ⟨nd, rfl⟩⟩))
  go_ret
  exact ⟨rfl, by repeat (first | exact HW.out | apply Drawn0.step)⟩

set_option maxHeartbeats 4000000 in
set_option maxRecDepth 100000 in
theorem long_l3 (A0 : Option Addr) (n c0 : Nat) (a1 x y z v : Int) (w : World)
    (ax : Gives A0 n c0 w a1 x) (ay : Gives A0 n c0 w (wrap64 (a1 + 1)) y) (az : Gives A0 n c0 w (wrap64 (a1 + 2)) z) (av : Gives A0 n c0 w (wrap64 (a1 + 3)) v)
    (h0 : 244 < x) (h1 : 128 ≤ z) (h2 : z ≤ 191) (h3 : 128 ≤ v) (h4 : v ≤ 191) :
    Calls Tryd.prog 48 #[.slice A0 n c0, .int .i64 a1] w fun e w' => e = .returned (.int .i64 (longV x y z v)) ∧ Drawn0 w w' := by
  have hv : longV x y z v = 0 := by
    simp only [longV, inV, Bool.and_eq_true, Bool.or_eq_true, decide_eq_true_eq, beq_iff_eq]
    (repeat' split) <;> omega
  rw [hv]
  clear hv
  have c0 : (x == 224) = false := beq_eq_false_iff_ne.2 (by omega)
  have c1 : (x == 237) = false := beq_eq_false_iff_ne.2 (by omega)
  have c2 : (x == 240) = false := beq_eq_false_iff_ne.2 (by omega)
  have c3 : (x == 244) = false := beq_eq_false_iff_ne.2 (by omega)
  go_enter Tryd.func48, Tryd.ntmps48
  go_wp2_with fail
  refine ax.zero.mono ?_
  rintro e w' ⟨rfl, ⟨m1, rfl⟩⟩
  go_wp2_with fail
  refine (ay.out m1).mono ?_
  rintro e w' ⟨rfl, ⟨m2, rfl⟩⟩
  simp only [World.drewN_drewN]
  go_wp2_with fail
  refine (az.out _).mono ?_
  rintro e w' ⟨rfl, ⟨m3, rfl⟩⟩
  simp only [World.drewN_drewN]
  go_wp2_with fail
  refine (av.out _).mono ?_
  rintro e w' ⟨rfl, ⟨m4, rfl⟩⟩
  simp only [World.drewN_drewN]
  obtain ⟨W, hW⟩ : ∃ W, W = w.drewN (m1 + m2 + m3 + m4) := ⟨_, rfl⟩
  rw [← hW]
  have HW : Aside0 (Drawn0 w W) := ⟨⟨_, hW⟩⟩
  clear hW
  go_wp2_with (first | (go_at_call 61; (first | refine (in_yes _ _ _ _ (by omega) (by omega)).mono ?_ | refine (in_no _ _ _ _ (by omega)).mono ?_); rintro e w' ⟨rfl, ⟨nd, rfl⟩⟩))
  go_ret
  exact ⟨rfl, by repeat (first | exact HW.out | apply Drawn0.step)⟩

theorem galleyref02_Long.calls (A0 : Option Addr) (c0 : Nat) (l0 : List Int) (a1 : Int) (r : Int) (w : World) (hr0 : Kd.C (Kd.int .u8) w A0 l0.length l0) (hc0 : l0.length ≤ c0) (h : galleyref02_Long.f l0 a1 = some r) :
    Calls Tryd.prog 48 #[.slice A0 l0.length c0, .int .i64 a1] w fun e w' => e = .returned (.int .i64 r) ∧ Drawn0 w w' := by
  have g : ∀ p, Gives A0 l0.length c0 w p (atV l0 p) := fun p => ⟨fun m => galleyref02_at.calls A0 c0 l0 p _ _ (Kd.C_drewN hr0 m) hc0 (at_f l0 p)⟩
  obtain rfl : longV (atV l0 a1) (atV l0 (wrap64 (a1 + 1))) (atV l0 (wrap64 (a1 + 2))) (atV l0 (wrap64 (a1 + 3))) = r := Option.some.inj h
  have ax := g a1
  have ay := g (wrap64 (a1 + 1))
  have az := g (wrap64 (a1 + 2))
  have av := g (wrap64 (a1 + 3))
  generalize atV l0 a1 = x at ax ⊢
  generalize atV l0 (wrap64 (a1 + 1)) = y at ay ⊢
  generalize atV l0 (wrap64 (a1 + 2)) = z at az ⊢
  generalize atV l0 (wrap64 (a1 + 3)) = v at av ⊢
  have zz : (128 ≤ z ∧ z ≤ 191) ∨ (z < 128 ∨ 191 < z) := by omega
  have vv : (128 ≤ v ∧ v ≤ 191) ∨ (v < 128 ∨ 191 < v) := by omega
  rcases (by omega : (0 ≤ x ∧ x ≤ 127) ∨ (194 ≤ x ∧ x ≤ 223) ∨ x = 224 ∨ (225 ≤ x ∧ x ≤ 236) ∨ x = 237 ∨ (238 ≤ x ∧ x ≤ 239) ∨ x = 240 ∨ (241 ≤ x ∧ x ≤ 243) ∨ x = 244 ∨ x < 0 ∨ (127 < x ∧ x < 194) ∨ 244 < x) with ⟨p, q⟩ | ⟨p, q⟩ | p | ⟨p, q⟩ | p | ⟨p, q⟩ | p | ⟨p, q⟩ | p | p | ⟨p, q⟩ | p
  · exact long_a A0 _ c0 a1 x y z v w ax ay az av p q
  · rcases (by omega : (128 ≤ y ∧ y ≤ 191) ∨ (y < 128 ∨ 191 < y)) with ⟨s, t⟩ | s
    · exact long_b1 A0 _ c0 a1 x y z v w ax ay az av p q s t
    · rcases zz with ⟨i, j⟩ | i
      · rcases vv with ⟨k, o⟩ | k
        · exact long_b4 A0 _ c0 a1 x y z v w ax ay az av p q s i j k o
        · exact long_b3 A0 _ c0 a1 x y z v w ax ay az av p q s i j k
      · exact long_b2 A0 _ c0 a1 x y z v w ax ay az av p q s i
  · rcases zz with ⟨i, j⟩ | i
    · rcases (by omega : (160 ≤ y ∧ y ≤ 191) ∨ (y < 160 ∨ 191 < y)) with ⟨s, t⟩ | s
      · exact long_c2 A0 _ c0 a1 x y z v w ax ay az av p i j s t
      · rcases vv with ⟨k, o⟩ | k
        · exact long_c4 A0 _ c0 a1 x y z v w ax ay az av p i j s k o
        · exact long_c3 A0 _ c0 a1 x y z v w ax ay az av p i j s k
    · exact long_c1 A0 _ c0 a1 x y z v w ax ay az av p i
  · rcases zz with ⟨i, j⟩ | i
    · rcases (by omega : (128 ≤ y ∧ y ≤ 191) ∨ (y < 128 ∨ 191 < y)) with ⟨s, t⟩ | s
      · exact long_d2 A0 _ c0 a1 x y z v w ax ay az av p q i j s t
      · rcases vv with ⟨k, o⟩ | k
        · exact long_d4 A0 _ c0 a1 x y z v w ax ay az av p q i j s k o
        · exact long_d3 A0 _ c0 a1 x y z v w ax ay az av p q i j s k
    · exact long_d1 A0 _ c0 a1 x y z v w ax ay az av p q i
  · rcases zz with ⟨i, j⟩ | i
    · rcases (by omega : (128 ≤ y ∧ y ≤ 159) ∨ (y < 128 ∨ 159 < y)) with ⟨s, t⟩ | s
      · exact long_e2 A0 _ c0 a1 x y z v w ax ay az av p i j s t
      · rcases vv with ⟨k, o⟩ | k
        · exact long_e4 A0 _ c0 a1 x y z v w ax ay az av p i j s k o
        · exact long_e3 A0 _ c0 a1 x y z v w ax ay az av p i j s k
    · exact long_e1 A0 _ c0 a1 x y z v w ax ay az av p i
  · rcases zz with ⟨i, j⟩ | i
    · rcases (by omega : (128 ≤ y ∧ y ≤ 191) ∨ (y < 128 ∨ 191 < y)) with ⟨s, t⟩ | s
      · exact long_f2 A0 _ c0 a1 x y z v w ax ay az av p q i j s t
      · rcases vv with ⟨k, o⟩ | k
        · exact long_f4 A0 _ c0 a1 x y z v w ax ay az av p q i j s k o
        · exact long_f3 A0 _ c0 a1 x y z v w ax ay az av p q i j s k
    · exact long_f1 A0 _ c0 a1 x y z v w ax ay az av p q i
  · rcases zz with ⟨i, j⟩ | i
    · rcases vv with ⟨k, o⟩ | k
      · rcases (by omega : (144 ≤ y ∧ y ≤ 191) ∨ (y < 144 ∨ 191 < y)) with ⟨s, t⟩ | s
        · exact long_g3 A0 _ c0 a1 x y z v w ax ay az av p i j k o s t
        · exact long_g4 A0 _ c0 a1 x y z v w ax ay az av p i j k o s
      · exact long_g2 A0 _ c0 a1 x y z v w ax ay az av p i j k
    · exact long_g1 A0 _ c0 a1 x y z v w ax ay az av p i
  · rcases zz with ⟨i, j⟩ | i
    · rcases vv with ⟨k, o⟩ | k
      · rcases (by omega : (128 ≤ y ∧ y ≤ 191) ∨ (y < 128 ∨ 191 < y)) with ⟨s, t⟩ | s
        · exact long_h3 A0 _ c0 a1 x y z v w ax ay az av p q i j k o s t
        · exact long_h4 A0 _ c0 a1 x y z v w ax ay az av p q i j k o s
      · exact long_h2 A0 _ c0 a1 x y z v w ax ay az av p q i j k
    · exact long_h1 A0 _ c0 a1 x y z v w ax ay az av p q i
  · rcases zz with ⟨i, j⟩ | i
    · rcases vv with ⟨k, o⟩ | k
      · rcases (by omega : (128 ≤ y ∧ y ≤ 143) ∨ (y < 128 ∨ 143 < y)) with ⟨s, t⟩ | s
        · exact long_i3 A0 _ c0 a1 x y z v w ax ay az av p i j k o s t
        · exact long_i4 A0 _ c0 a1 x y z v w ax ay az av p i j k o s
      · exact long_i2 A0 _ c0 a1 x y z v w ax ay az av p i j k
    · exact long_i1 A0 _ c0 a1 x y z v w ax ay az av p i
  · rcases zz with ⟨i, j⟩ | i
    · rcases vv with ⟨k, o⟩ | k
      · exact long_j3 A0 _ c0 a1 x y z v w ax ay az av p i j k o
      · exact long_j2 A0 _ c0 a1 x y z v w ax ay az av p i j k
    · exact long_j1 A0 _ c0 a1 x y z v w ax ay az av p i
  · rcases zz with ⟨i, j⟩ | i
    · rcases vv with ⟨k, o⟩ | k
      · exact long_k3 A0 _ c0 a1 x y z v w ax ay az av p q i j k o
      · exact long_k2 A0 _ c0 a1 x y z v w ax ay az av p q i j k
    · exact long_k1 A0 _ c0 a1 x y z v w ax ay az av p q i
  · rcases zz with ⟨i, j⟩ | i
    · rcases vv with ⟨k, o⟩ | k
      · exact long_l3 A0 _ c0 a1 x y z v w ax ay az av p i j k o
      · exact long_l2 A0 _ c0 a1 x y z v w ax ay az av p i j k
    · exact long_l1 A0 _ c0 a1 x y z v w ax ay az av p i
end Go.Proofs.YtdomggegacgmnaaDoor.PA
