/- Plain law: what OrderOwn's walk asks is there. Condition: the list's texts' lengths and their number are together at most 2^20, and so is the other text's; all bytes from 0 to 255. -/
import Derived.Test.YtdomggegacgmnaaDoorGOwn
import Derived.Test.YtdomggegacgmnaaDoorSortsRef
namespace Go.Proofs.YtdomggegacgmnaaDoor.pure
open Go.RowKit PA ref srt Go.Proofs.YtdomggegacgmnaaDoorW.PrintWords Go.Proofs.YtdomggegacgmnaaDoorW.PrintLast Go.Proofs.YtdomggegacgmnaaDoorW.PrintMore
theorem byte31 {x : Int} (h : (Lit.int .u8 x).wf = true) : 0 ≤ x ∧ x ≤ 255 := by
  simp [Lit.wf, IntKind.min, IntKind.max, IntKind.bits, IntKind.signed] at h
  omega
theorem OrderOwn (l0 : List (List Int)) (l1 : List Int) (a2 : Int) (h0 : (l0.map List.length).sum + l0.length ≤ 1048576) (w0 : ∀ l ∈ l0, ∀ x ∈ l, (Lit.int .u8 x).wf = true) (h1 : l1.length ≤ 1048576) (w1 : ∀ x ∈ l1, (Lit.int .u8 x).wf = true) (_w2 : (Lit.int .i64 a2).wf = true) :
    ∃ k, galleylaw31_OrderOwn.f k l0 l1 a2 = some true := by
  have hb : ∀ x ∈ l0, ∀ y ∈ x, 0 ≤ y ∧ y ≤ 255 := fun x hx y hy => byte31 (w0 x hx y hy)
  have hlen : ∀ x ∈ l0, x.length ≤ 1048576 := fun x hx => by have := sum_in l0 x hx; omega
  have hn : l0.length ≤ 1048576 := by omega
  refine ⟨8388608 + l0.length * (l0.length + 4) + 1, ?_⟩
  unfold galleylaw31_OrderOwn.f
  rw [if_pos]
  exact ⟨hn, hlen, h1, hb, fun x hx => byte31 (w1 x hx), fun hr => ⟨refN (ltN l0 a2) l0.length, sort_f l0 a2 hr hb hlen hn _ (Nat.le_refl _), refN_merge (fun x y : List Int => ltV a2 x y) (swo_ltV a2) l0 [], refN_lt _ _⟩⟩
end Go.Proofs.YtdomggegacgmnaaDoor.pure
