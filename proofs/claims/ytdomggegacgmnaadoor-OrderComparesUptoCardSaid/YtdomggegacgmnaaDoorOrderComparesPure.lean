/- Plain law: OrderCompares' function answers true. Condition: at most 2^20 bytes each, all of them from 0 to 255. -/
import Derived.Test.YtdomggegacgmnaaDoorPAx9
import Derived.Test.YtdomggegacgmnaaDoorRefThings
namespace Go.Proofs.YtdomggegacgmnaaDoor.pure
open Go.RowKit PA Go.Proofs.YtdomggegacgmnaaDoorW.PrintWords Go.Proofs.YtdomggegacgmnaaDoorW.PrintLast Go.Proofs.YtdomggegacgmnaaDoorW.PrintMore

theorem range31 {l : List Int} (w : ∀ x ∈ l, (Lit.int .u8 x).wf = true) : ∀ x ∈ l, 0 ≤ x ∧ x ≤ 255 := fun x hx => by
  have := w x hx
  simp [Lit.wf, IntKind.min, IntKind.max, IntKind.bits, IntKind.signed] at this
  omega
theorem own31 (l : List Int) (h : l.length ≤ 1048576) : galleylaw31_own.f l = some l := by
  unfold galleylaw31_own.f
  simp only [Option.bind_some, List.length_nil, List.nil_append]
  rw [if_pos (by omega)]
theorem cmp31 (a b : List Int) (r : Int) (ha : a.length ≤ 1048576) (hb : b.length ≤ 1048576) : ∃ x, order_Compare.f a b r = some x := by
  unfold order_Compare.f
  have hsm : (small a && small b) = true := by simp only [small, Bool.and_eq_true, decide_eq_true_eq]; omega
  by_cases h : r = 1 ∨ r = 2 ∨ r = 3
  · rw [if_pos h, if_pos hsm]; exact ⟨_, rfl⟩
  · rw [if_neg h]; exact ⟨_, rfl⟩
theorem OrderCompares (l0 l1 : List Int) (a2 : Int) (h0 : l0.length ≤ 1048576) (w0 : ∀ x ∈ l0, (Lit.int .u8 x).wf = true) (h1 : l1.length ≤ 1048576) (w1 : ∀ x ∈ l1, (Lit.int .u8 x).wf = true) (_w2 : (Lit.int .i64 a2).wf = true) : ∃ k, galleylaw31_OrderCompares.f k l0 l1 a2 = some true := by
  refine ⟨8388608, ?_⟩
  have c := fun r => ref.compare_f l0 l1 (range31 w0) (range31 w1) h0 h1 r 8388608 (Nat.le_refl _)
  obtain ⟨x, hx⟩ := cmp31 l0 l1 a2 h0 h1
  obtain ⟨x1, hx1⟩ := cmp31 l0 l1 1 h0 h1
  obtain ⟨x2, hx2⟩ := cmp31 l0 l1 2 h0 h1
  obtain ⟨x3, hx3⟩ := cmp31 l0 l1 3 h0 h1
  unfold galleylaw31_OrderCompares.f galleylaw31_wakes.f
  rw [Option.bind_some, if_pos rfl]
  simp only [own31 l0 h0, own31 l1 h1, c, hx, hx1, hx2, hx3, Option.bind_some, if_true]
  unfold order_Agree.f
  simp only [hx1, hx2, hx3, Option.bind_some]
  by_cases e : x1.1 = x2.1
  · rw [if_pos e, Option.bind_some, if_pos e]; simp
  · rw [if_neg e, Option.bind_some, if_neg e]; simp
end Go.Proofs.YtdomggegacgmnaaDoor.pure
