/- Set and Drop over objects. -/
import Derived.Test.YtjladdjpnicldaaGMeth
import Derived.BigRegion
namespace Go.Proofs.Ytjladdjpnicldaa.PA
open Go.RowKit Go.Maps Go.Proofs.YtjladdjpnicldaaW.PrintWords Go.Proofs.YtjladdjpnicldaaW.PrintLast Go.Proofs.YtjladdjpnicldaaW.PrintMore

set_option maxHeartbeats 4000000 in
set_option maxRecDepth 100000 in
theorem set_many (x : S24) (w : World) (b : Nat) (n : Int) (rows : List S24) (h : RObj w b n rows) (h0 : ¬ (x.f0.size = 0 ∨ 64 < x.f0.size)) (h1 : ¬ (x.f1 < 0 ∨ x.f1 ≥ x.f2 ∨ x.f2 > n ∨ gravV x.f3 = false ∨ gravV x.f4 = false)) (hm : (getV rows x.f0).isSome = false ∧ 1024 ≤ rows.length) :
    Calls Try.prog 11 #[.pointer (some ⟨b, 0, none⟩), encR x] w fun e w' => e = .returned (.tuple #[.pointer none, .int .i64 121]) ∧ Below w.heap.size w w' := by
  obtain ⟨x0, x1, x2, x3, x4⟩ := x
  simp only at h0 h1
  unfold encR
  obtain ⟨m, D, hb, ho, ha⟩ := h
  have c0 : (w.alloc (.cells #[.string x0, .int .i64 x1, .int .i64 x2, .int .i64 x3, .int .i64 x4] 24)).cell? ⟨b, 0, none⟩ = some (.int .i64 n) := (blk_cell (blk_alloc hb _) 0).trans rfl
  have c1 : (w.alloc (.cells #[.string x0, .int .i64 x1, .int .i64 x2, .int .i64 x3, .int .i64 x4] 24)).cell? ⟨b, 1, none⟩ = some (.map (some m)) := (blk_cell (blk_alloc hb _) 1).trans rfl
  have d1 : ((x0.size : Int) == 0) = false := beq_eq_false_iff_ne.2 (by omega)
  have d2 : decide (64 < (x0.size : Int)) = false := decide_eq_false (by omega)
  have d3 : decide (x1 < 0) = false := decide_eq_false (fun e => h1 (.inl e))
  have d4 : decide (x2 ≤ x1) = false := decide_eq_false (fun e => h1 (.inr (.inl e)))
  have d5 : decide (n < x2) = false := decide_eq_false (fun e => h1 (.inr (.inr (.inl e))))
  have hg3 : ∀ W, Calls Try.prog 28 #[.int .i64 x3] W fun e w' => e = .returned (.bool true) ∧ w' = W := fun W => by have := gravity_walk x3 W; rwa [Bool.of_not_eq_false (fun e => h1 (.inr (.inr (.inr (.inl e)))))] at this
  have hg4 : ∀ W, Calls Try.prog 28 #[.int .i64 x4] W fun e w' => e = .returned (.bool true) ∧ w' = W := fun W => by have := gravity_walk x4 W; rwa [Bool.of_not_eq_false (fun e => h1 (.inr (.inr (.inr (.inr e)))))] at this
  have hsz : x0.size ≤ maxLen := by unfold maxLen; omega
  have hkey := Go.WideMaps.keyOf_string_mk Try.underlying9 (s := x0) hsz
  have HO := Aside0.mk ho
  have HA := Aside0.mk ha
  clear hb h0 h1 ho ha
  go_enter Try.func11, Try.ntmps11
  go_wp2_with fail
  go_quiet ((go_at_call 28; first | exact Calls.quiet_of_same (hg3 _) | exact Calls.quiet_of_same (hg4 _)))
  go_wp2_with fail
  obtain ⟨Wq, HW⟩ : ∃ Wq, Wq = (w.alloc (.cells #[.string x0, .int .i64 x1, .int .i64 x2, .int .i64 x3, .int .i64 x4] 24)).drewN nq := ⟨_, rfl⟩
  rw [← HW]
  have k1 : Wq.cell? ⟨b, 1, none⟩ = some (.map (some m)) := by rw [HW]; exact c1
  have kx : Wq.cell? ⟨w.heap.size, 0, none⟩ = some (.string x0) := by rw [HW]; exact (blk_cell (MapKept.heap_alloc w _).1 0).trans rfl
  have ho2 : Wq.ownsMap Try.prog 9 readR m rows.length D := by rw [HW]; exact (HO.out.alloc _)
  have k1b : ∀ Z, (Wq.alloc Z).cell? ⟨b, 1, none⟩ = some (.map (some m)) := fun Z => cell_later k1 Z
  have kxb : ∀ Z, (Wq.alloc Z).cell? ⟨w.heap.size, 0, none⟩ = some (.string x0) := fun Z => cell_later kx Z
  have hA : (Instr.lookup 73 (.map (some m)) (.string x0) true).run Try.prog Wq = .ok (.tuple #[encR ((getV rows x0).getD z24), .bool (getV rows x0).isSome]) Wq := look_rows (W := Wq) (ho2) HA.out hsz
  have hA1 : (Instr.lookup 73 (.map (some m)) (.string x0) true).run Try.prog Wq.drew = .ok (.tuple #[encR ((getV rows x0).getD z24), .bool (getV rows x0).isSome]) Wq.drew := look_rows (W := Wq.drew) (ho2) HA.out hsz
  have hB : (Instr.lookup 73 (.map (some m)) (.string x0) true).run Try.prog (Wq.alloc (.cells #[.string ⟨#[]⟩, .int .i64 0, .int .i64 0, .int .i64 0, .int .i64 0] 24)) = .ok (.tuple #[encR ((getV rows x0).getD z24), .bool (getV rows x0).isSome]) (Wq.alloc (.cells #[.string ⟨#[]⟩, .int .i64 0, .int .i64 0, .int .i64 0, .int .i64 0] 24)) := look_rows (W := (Wq.alloc (.cells #[.string ⟨#[]⟩, .int .i64 0, .int .i64 0, .int .i64 0, .int .i64 0] 24))) (ho2.alloc _) HA.out hsz
  have hB1 : (Instr.lookup 73 (.map (some m)) (.string x0) true).run Try.prog (Wq.alloc (.cells #[.string ⟨#[]⟩, .int .i64 0, .int .i64 0, .int .i64 0, .int .i64 0] 24)).drew = .ok (.tuple #[encR ((getV rows x0).getD z24), .bool (getV rows x0).isSome]) (Wq.alloc (.cells #[.string ⟨#[]⟩, .int .i64 0, .int .i64 0, .int .i64 0, .int .i64 0] 24)).drew := look_rows (W := (Wq.alloc (.cells #[.string ⟨#[]⟩, .int .i64 0, .int .i64 0, .int .i64 0, .int .i64 0] 24)).drew) (ho2.alloc _) HA.out hsz
  generalize (getV rows x0).getD z24 = y at hA hA1 hB hB1
  obtain ⟨y0, y1, y2, y3, y4⟩ := y
  unfold encR at hA hA1 hB hB1
  simp only [hm.1] at hA hA1 hB hB1
  have HM := Aside0.mk hm.2
  have HW2 := Aside0.mk HW
  have HO2 := Aside0.mk ho2
  clear HW ho2 hkey c0 c1 hm hsz
  go_big_region
  all_goals
    have hlen := fun ty => ((HO2.out.alloc (.cells #[.string y0, .int .i64 y1, .int .i64 y2, .int .i64 y3, .int .i64 y4] 24)).drew).len Try.underlying73 ty
    rw [(HA.out.keys Try.underlying9 HO2.out).2] at hlen
    have d6 : decide (1024 ≤ (rows.length : Int)) = true := decide_eq_true (by have := HM.out; omega)
    go_wp2_with fail
    go_ret2
    exact ⟨rfl, by rw [HW2.out]; exact below_drew1 (below_alloc (pw_below_drewN (below_alloc (Below.refl _ _) _) _) _)⟩
end Go.Proofs.Ytjladdjpnicldaa.PA
