/- The package-level variable step.bad in memory: what every world of a call knows of it. Condition: it is laid when the call begins. -/
import Derived.Test.YtdomggegacgmnaaDoorPAx0
namespace Go.Proofs.YtdomggegacgmnaaDoor.PA
open Go.RowKit Go.Proofs.YtdomggegacgmnaaDoorW.PrintWords Go.Proofs.YtdomggegacgmnaaDoorW.PrintLast Go.Proofs.YtdomggegacgmnaaDoorW.PrintMore

/-- step.bad's three cells hold what its initialiser lays. -/
structure Laid (w : World) : Prop where mk :: (out : w.cell? ⟨0, 0, none⟩ = some (.int .i32 65533) ∧ w.cell? ⟨0, 1, none⟩ = some (.int .i64 1) ∧ w.cell? ⟨0, 2, none⟩ = some (.bool false))
theorem Laid.below {w W : World} (hg : Laid w) (hb : Below w.heap.size w W) : Laid W :=
  ⟨pw_cell_below hb hg.out.1, pw_cell_below hb hg.out.2.1, pw_cell_below hb hg.out.2.2⟩
theorem Laid.drewN {w : World} (hg : Laid w) (n : Nat) : Laid (w.drewN n) := ⟨hg.out⟩
theorem Laid.drew {w : World} (hg : Laid w) : Laid w.drew := ⟨hg.out⟩
theorem Laid.alloc {w : World} (hg : Laid w) (o : Obj) : Laid (w.alloc o) := hg.below ((Below.refl _ _).alloc (Nat.le_refl _) o)
theorem Laid.set {w W : World} {g o : Nat} {v : Value} (hL : Laid w) (hge : w.heap.size ≤ g) (h : Laid W) : Laid (W.setCell ⟨g, o, none⟩ v) := by
  have h0 : 0 < w.heap.size := World.block_lt_of_cell? w _ hL.out.1
  have ne : ∀ k, (⟨0, k, none⟩ : Addr) ≠ ⟨g, o, none⟩ := fun k e => by simp only [Addr.mk.injEq] at e; omega
  exact ⟨(World.cell?_setCell_other _ _ _ _ (Ne.symm (ne _))).trans h.out.1, (World.cell?_setCell_other _ _ _ _ (Ne.symm (ne _))).trans h.out.2.1, (World.cell?_setCell_other _ _ _ _ (Ne.symm (ne _))).trans h.out.2.2⟩
end Go.Proofs.YtdomggegacgmnaaDoor.PA
