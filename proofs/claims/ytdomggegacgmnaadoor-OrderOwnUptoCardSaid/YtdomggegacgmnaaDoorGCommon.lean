/- order.Common: the call hands back what the plain function of XGCore says. Condition: step.bad is laid (Laid). -/
import Derived.Test.YtdomggegacgmnaaDoorPAx10
import Derived.Test.YtdomggegacgmnaaDoorBridge
import Derived.BigQuiet
import Derived.Deep.QuietTactic
namespace Go.Proofs.YtdomggegacgmnaaDoor.PA
open Go.RowKit Go.Proofs.YtdomggegacgmnaaDoorW.PrintWords Go.Proofs.YtdomggegacgmnaaDoorW.PrintLast Go.Proofs.YtdomggegacgmnaaDoorW.PrintMore

theorem stepAt_f (l : List Int) (p : Nat) (hp : p < l.length) (hm : l.length ≤ 140737488355328) (hi : insideV l p = 0) : step_At.f 1 l p = some ((atS l p).1, (atS l p).2.1, (atS l p).2.2, 0) := by
  unfold step_At.f
  rw [if_neg (by omega), step_At.j0, decide_eq_false (by omega), if_neg (by simp)]
  unfold step_inside.f step_at.f
  rw [if_pos (by omega), if_pos (by omega), Option.bind_some, if_neg (by rw [Int.toNat_natCast, hi]; simp), Option.bind_some, Int.toNat_natCast]

theorem eqA60 (d : Nat) (w : World) (x0 y0 x1 y1 : Int) (x2 y2 : Bool) :
    (Op.equalIn (d + 2) 60 (.agg #[.int .i32 x0, .int .i64 x1, .bool x2]) (.agg #[.int .i32 y0, .int .i64 y1, .bool y2])).run Tryd.prog w = .ok (x0 == y0 && (x1 == y1 && (x2 == y2))) w := by
  refine eqA_of Tryd.underlying60 (by kernel_rfl) ?_
  refine eqf_cons (by rfl) (by go_simp; rfl) (by go_simp; rfl) (by go_simp) ?_
  refine eqf_cons (by rfl) (by go_simp; rfl) (by go_simp; rfl) (by go_simp) ?_
  exact eqf_last (by rfl) (by go_simp; rfl) (by go_simp; rfl) (by go_simp)
theorem neq60 (x0 x1 : Int) (x2 : Bool) (y0 y1 : Int) (y2 : Bool) : ∀ W : World, (binOp .neq 60 (.agg #[.int .i32 x0, .int .i64 x1, .bool x2]) (.agg #[.int .i32 y0, .int .i64 y1, .bool y2])).run Tryd.prog W = .ok (.bool (!(x0 == y0 && (x1 == y1 && (x2 == y2))))) W := fun W => by
  rw [run_neq_struct, eqA60 9998 W x0 y0 x1 y1 x2 y2]; rfl
theorem neq60_no (x0 x1 : Int) (x2 : Bool) : ∀ W : World, (binOp .neq 60 (.agg #[.int .i32 x0, .int .i64 x1, .bool x2]) (.agg #[.int .i32 x0, .int .i64 x1, .bool x2])).run Tryd.prog W = .ok (.bool false) W := fun W => by
  rw [neq60]; simp
theorem neq60_yes (x0 x1 : Int) (x2 : Bool) (y0 y1 : Int) (y2 : Bool) (h : ¬ (x0, x1, x2) = (y0, y1, y2)) : ∀ W : World, (binOp .neq 60 (.agg #[.int .i32 x0, .int .i64 x1, .bool x2]) (.agg #[.int .i32 y0, .int .i64 y1, .bool y2])).run Tryd.prog W = .ok (.bool true) W := fun W => by
  rw [neq60]
  have : (x0 == y0 && (x1 == y1 && (x2 == y2))) = false := by
    cases hb : (x0 == y0 && (x1 == y1 && (x2 == y2))) with
    | false => rfl
    | true =>
      simp only [Bool.and_eq_true, beq_iff_eq] at hb
      obtain ⟨rfl, rfl, rfl⟩ := hb
      exact absurd rfl h
  rw [this]; rfl

set_option maxHeartbeats 8000000 in
set_option maxRecDepth 100000 in
theorem common_walk (A0 : Option Addr) (c0 : Nat) (l0 : List Int) (A1 : Option Addr) (c1 : Nat) (l1 : List Int) (R : Int) (w : World) (hr0 : Kd.C (Kd.int .u8) w A0 l0.length l0) (hc0 : l0.length ≤ c0) (hr1 : Kd.C (Kd.int .u8) w A1 l1.length l1) (hc1 : l1.length ≤ c1)
    (hm0 : l0.length ≤ 140737488355328) (hm1 : l1.length ≤ 140737488355328) (hR : R = commonV l0 l1 (l0.length + 1) 0) (hL : Laid w) :
    Calls Tryd.prog 19 #[.slice A0 l0.length c0, .slice A1 l1.length c1] w fun e w' => e = .returned (.int .i64 R) ∧ Below w.heap.size w w' := by
  have H0 := Aside0.mk hr0
  have H1 := Aside0.mk hr1
  have HL := Aside0.mk hL
  have HR := Aside0.mk hR
  clear hr0 hr1 hL hR
  go_enter Tryd.func19, Tryd.ntmps19
  go_wp2_with fail
  go_loopg [5] (l0.length + 1) (fun g v W => ∃ p f : Nat, v = .int .i64 p ∧ f ≤ g ∧ l0.length - p < f ∧ p ≤ l0.length ∧ p ≤ l1.length ∧ Aside0 (R = commonV l0 l1 f p ∧ insideV l0 p = 0 ∧ insideV l1 p = 0) ∧ Aside0 (Below w.heap.size w W))
  case atStart => exact ⟨0, l0.length + 1, rfl, by omega, by omega, by omega, by omega, ⟨HR.out, inside_nil _, inside_nil _⟩, ⟨Below.refl _ _⟩⟩
  case round =>
    obtain ⟨p, f, rfl, hf, hg, hp0, hp1, HI, HB⟩ := hrel
    obtain ⟨f, rfl⟩ : ∃ f', f = f' + 1 := ⟨f - 1, by omega⟩
    by_cases k0 : p < l0.length
    · by_cases k1 : p < l1.length
      · have e1 : decide ((p : Int) < (l0.length : Int)) = true := decide_eq_true (by omega)
        have e2 : decide ((p : Int) < (l1.length : Int)) = true := decide_eq_true (by omega)
        have h36 := Aside0.mk (step_At.calls 1 A0 c0 l0 p _ _ _ _ wr (Kd.C_below H0.out HB.out) hc0 (stepAt_f l0 p k0 hm0 HI.out.2.1) (HL.out.below HB.out))
        have HX := Aside0.mk (show atS l0 p = atS l0 p from rfl)
        generalize hx : atS l0 p = x at h36
        obtain ⟨x1, x2, x3⟩ := x
        replace hx := Aside0.mk hx
        clear HX
        go_wp2_with fail
        refine h36.out.mono ?_
        rintro e W1 ⟨rfl, hb⟩
        have HB1 := Aside0.mk (below_then HB.out HB.out.size hb)
        clear hb h36 HB
        go_wp2_with fail
        have hS1 := heap_alloc_new W1 (Obj.cells #[Value.int IntKind.i32 x1, Value.int IntKind.i64 x2, Value.bool x3] 60)
        have hB2 : Below w.heap.size w (W1.alloc (Obj.cells #[Value.int IntKind.i32 x1, Value.int IntKind.i64 x2, Value.bool x3] 60)) := HB1.out.alloc HB1.out.size _
        have hlt : W1.heap.size < (W1.alloc (Obj.cells #[Value.int IntKind.i32 x1, Value.int IntKind.i64 x2, Value.bool x3] 60)).heap.size := (Array.getElem?_eq_some_iff.1 hS1).1
        generalize W1.heap.size = b1 at hS1 hlt ⊢
        generalize W1.alloc (Obj.cells #[Value.int IntKind.i32 x1, Value.int IntKind.i64 x2, Value.bool x3] 60) = W2 at hS1 hB2 hlt ⊢
        clear HB1
        have h36 := Aside0.mk (step_At.calls 1 A1 c1 l1 p _ _ _ _ W2 (Kd.C_below H1.out hB2) hc1 (stepAt_f l1 p k1 hm1 HI.out.2.2) (HL.out.below hB2))
        generalize hy : atS l1 p = y at h36
        obtain ⟨y1, y2, y3⟩ := y
        replace hy := Aside0.mk hy
        refine h36.out.mono ?_
        rintro e W3 ⟨rfl, hb⟩
        have hB3 := below_then hB2 hB2.size hb
        replace hS1 := (hb.block b1 hlt).trans hS1
        clear hb h36 hB2 hlt
        go_wp2_with fail
        have hS2 := heap_alloc_new W3 (Obj.cells #[Value.int IntKind.i32 y1, Value.int IntKind.i64 y2, Value.bool y3] 60)
        have hB4 : Below w.heap.size w (W3.alloc (Obj.cells #[Value.int IntKind.i32 y1, Value.int IntKind.i64 y2, Value.bool y3] 60)) := hB3.alloc hB3.size _
        replace hS1 := (Below.heap_alloc W3 (Obj.cells #[Value.int IntKind.i32 y1, Value.int IntKind.i64 y2, Value.bool y3] 60) b1 (Array.getElem?_eq_some_iff.1 hS1).1).trans hS1
        generalize W3.heap.size = b2 at hS2 ⊢
        generalize W3.alloc (Obj.cells #[Value.int IntKind.i32 y1, Value.int IntKind.i64 y2, Value.bool y3] 60) = W4 at hS1 hS2 hB4 ⊢
        clear hB3
        have r0 : W4.cell? ⟨b1, 0, none⟩ = some (.int .i32 x1) := (blk_cell hS1 0).trans rfl
        have r1 : W4.cell? ⟨b1, 1, none⟩ = some (.int .i64 x2) := (blk_cell hS1 1).trans rfl
        have r2 : W4.cell? ⟨b1, 2, none⟩ = some (.bool x3) := (blk_cell hS1 2).trans rfl
        have t0 : W4.cell? ⟨b2, 0, none⟩ = some (.int .i32 y1) := (blk_cell hS2 0).trans rfl
        have t1 : W4.cell? ⟨b2, 1, none⟩ = some (.int .i64 y2) := (blk_cell hS2 1).trans rfl
        have t2 : W4.cell? ⟨b2, 2, none⟩ = some (.bool y3) := (blk_cell hS2 2).trans rfl
        have HB4 := Aside0.mk hB4
        clear hS1 hS2 hB4
        by_cases hxy : (x1, x2, x3) = (y1, y2, y3)
        · simp only [Prod.mk.injEq] at hxy
          obtain ⟨rfl, rfl, rfl⟩ := hxy
          have hne := neq60_no x1 x2 x3
          have hw := width_eq l0 p k0
          rw [hx.out] at hw
          replace hw : x2 = (stepW l0 p : Int) := hw
          have hw1 := width_eq l1 p k1
          rw [hy.out] at hw1
          replace hw1 : x2 = (stepW l1 p : Int) := hw1
          have hl0 := stepW_le l0 p k0
          have hl1 := stepW_le l1 p k1
          have hpos := stepW_pos l0 p
          obtain ⟨d, hd⟩ : ∃ d, d = stepW l0 p := ⟨_, rfl⟩
          obtain ⟨q, hq⟩ : ∃ q, q = p + d := ⟨_, rfl⟩
          have hq0 : q ≤ l0.length := by omega
          have hq1 : q ≤ l1.length := by omega
          have hwx : x2 = (d : Int) := by rw [hw, hd]
          subst hwx
          have e3 : IntKind.i64.wrap ((p : Int) + (d : Int)) = (q : Int) := by rw [IntKind.wrap_i64]; omega
          have z3 : (p : Int) + (d : Int) = (q : Int) := by omega
          have s0 := cut_run A0 c0 l0.length p q (q : Int) rfl (by omega) hq0 hc0
          have s1 := cut_run A1 c1 l1.length p q (q : Int) rfl (by omega) hq1 hc1
          have v0 : ∀ n, (convert 22 9 (.slice (cutA A0 c0 p) (q - p) (c0 - p))).run Tryd.prog (W4.drewN n) = .ok (.string (strOfNums ((l0.take q).drop p))) (W4.drewN n) := fun n => cut_conv (Kd.C_below H0.out (pw_below_drewN HB4.out n)) hc0 (by omega) hq0 _
          have v1 : ∀ n, (convert 22 9 (.slice (cutA A1 c1 p) (q - p) (c1 - p))).run Tryd.prog (W4.drewN n) = .ok (.string (strOfNums ((l1.take q).drop p))) (W4.drewN n) := fun n => cut_conv (Kd.C_below H1.out (pw_below_drewN HB4.out n)) hc1 (by omega) hq1 _
          have HQ := Aside0.mk (show q = p + d ∧ d = stepW l0 p ∧ d = stepW l1 p ∧ 1 ≤ d from ⟨hq, hd, by omega, by omega⟩)
          have HV0 := Aside0.mk (show strOfNums ((l0.take q).drop p) = strOfNums ((l0.take q).drop p) from rfl)
          generalize hs0 : strOfNums ((l0.take q).drop p) = u0 at v0
          generalize hs1 : strOfNums ((l1.take q).drop p) = u1 at v1
          replace hs0 := Aside0.mk hs0
          replace hs1 := Aside0.mk hs1
          clear hw hw1 hl0 hl1 hd hq HV0 hpos
          by_cases hu : u0 = u1
          · have hu2 : (u0.toList == u1.toList) = true := by rw [hu]; simp
            go_quiet (fail)
            go_wp2_with fail
            go_roundg f
            case measure => omega
            case rel =>
              obtain ⟨g1, g2, g3, g4⟩ := HQ.out
              refine ⟨q, f, by go_num, by omega, by omega, hq0, hq1, ⟨?_, ?_, ?_⟩, ⟨pw_below_drewN HB4.out _⟩⟩
              · rw [HI.out.1, commonV, if_pos ⟨k0, k1⟩, hx.out, hy.out, if_pos]
                · rw [show ((d : Int)).toNat = d from rfl, ← g1]
                · refine ⟨rfl, ?_⟩
                  rw [show ((d : Int)).toNat = d from rfl, ← g1, hs0.out, hs1.out, hu]
              · rw [g1, g2]; exact inside_step l0 p k0 HI.out.2.1
              · rw [g1, g3]; exact inside_step l1 p k1 HI.out.2.2
          · have hu2 : (u0.toList == u1.toList) = false := by
              cases hc : (u0.toList == u1.toList) with
              | false => rfl
              | true =>
                have g := eq_of_beq hc
                rw [Go.ByteArray.toList_eq, Go.ByteArray.toList_eq] at g
                exact absurd (ByteArray.ext (Array.toList_inj.1 g)) hu
            go_quiet (fail)
            go_wp2_with fail
            go_ret
            refine ⟨?_, pw_below_drewN HB4.out _⟩
            rw [HI.out.1, commonV, if_pos ⟨k0, k1⟩, hx.out, hy.out, if_neg]
            · rfl
            · rintro ⟨-, g⟩
              rw [show ((d : Int)).toNat = d from rfl, ← HQ.out.1, hs0.out, hs1.out] at g
              exact hu g
        · have hne := neq60_yes x1 x2 x3 y1 y2 y3 hxy
          go_quiet (fail)
          go_wp2_with fail
          go_ret
          refine ⟨?_, pw_below_drewN HB4.out _⟩
          rw [HI.out.1, commonV, if_pos ⟨k0, k1⟩, hx.out, hy.out, if_neg (fun g => hxy g.1)]; rfl
      · have e1 : decide ((p : Int) < (l0.length : Int)) = true := decide_eq_true (by omega)
        have e2 : decide ((p : Int) < (l1.length : Int)) = false := decide_eq_false (by omega)
        go_wp2_with fail
        go_ret
        refine ⟨?_, HB.out⟩
        rw [HI.out.1, commonV, if_neg (by omega)]; rfl
    · have e1 : decide ((p : Int) < (l0.length : Int)) = false := decide_eq_false (by omega)
      go_wp2_with fail
      go_ret
      refine ⟨?_, HB.out⟩
      rw [HI.out.1, commonV, if_neg (by omega)]; rfl

theorem order_Common.calls (A0 : Option Addr) (c0 : Nat) (l0 : List Int) (A1 : Option Addr) (c1 : Nat) (l1 : List Int) (r : Int) (w : World) (hr0 : Kd.C (Kd.int .u8) w A0 l0.length l0) (hc0 : l0.length ≤ c0) (hr1 : Kd.C (Kd.int .u8) w A1 l1.length l1) (hc1 : l1.length ≤ c1) (h : order_Common.f l0 l1 = some r) (hLaid : Laid w := by repeat (first | exact hLaid | exact hLaid.below (by assumption) | exact hLaid.below (Aside0.out (by assumption)) | refine Laid.drewN ?_ _ | refine Laid.drew ?_ | refine Laid.alloc ?_ _ | refine Laid.set hLaid (Aside0.out (by assumption)) ?_)) :
    Calls Tryd.prog 19 #[.slice A0 l0.length c0, .slice A1 l1.length c1] w fun e w' => e = .returned (.int .i64 r) ∧ Below w.heap.size w w' := by
  unfold order_Common.f at h
  by_cases c : l0.length ≤ 140737488355328 ∧ l1.length ≤ 140737488355328
  · rw [if_pos c] at h
    exact common_walk A0 c0 l0 A1 c1 l1 r w hr0 hc0 hr1 hc1 c.1 c.2 (Option.some.inj h).symm hLaid
  · rw [if_neg c] at h; cases h
end Go.Proofs.YtdomggegacgmnaaDoor.PA
