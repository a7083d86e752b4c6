/- What each law's row needs: the listed variable gives Laid; a slice of bytes is opened; the looks are off. -/
import Derived.Test.YtdomggegacgmnaaDoorCards
import Derived.Test.YtdomggegacgmnaaDoorTie
import Derived.Test.YtdomggegacgmnaaDoorGLaid
import Derived.WalkKit
import Derived.ProofKit
import Derived.OpenShut
import Derived.ChangeOld
import Derived.Below
import Derived.SizedLaws
import Derived.Deep.DeepHandedRow
import Derived.Lib.LaidTab
import Derived.Lib.SmallJoins
namespace Go.Proofs.YtdomggegacgmnaaDoor.law
open Go.ChangeShapes Go.WideShapes Go.ChangeAt Go.RowKit

theorem own : ownKnob Tryd.prog.godebug = none := by kernel_rfl
theorem gBad : Tryd.prog.globalNamed "galley/step.bad" = some 0 := by kernel_rfl
theorem gBadType : (Tryd.prog.globals[0]?).map (·.type) = some 60 := by kernel_rfl
theorem cells60 : Tryd.prog.cellsOf 60 = 3 := by kernel_rfl
theorem cells21 : Tryd.prog.cellsOf 21 = 1 := by kernel_rfl
theorem cells3 : Tryd.prog.cellsOf 3 = 1 := by kernel_rfl
theorem cells4 : Tryd.prog.cellsOf 4 = 1 := by kernel_rfl
theorem laidOut : laidOutB Tryd.prog = true := by kernel_rfl

/-- what the row's list gives: step.bad's cells -/
theorem laid_of {W : World} (h : laidMetH Tryd.prog [("galley/step.bad", Rows.laid_galley_step_bad)] W) : PA.Laid W := by
  replace h : laidMet Tryd.prog [("galley/step.bad", Rows.laid_galley_step_bad)] W := h
  obtain ⟨ps, ⟨g', t', cs, fuel, p, q, hg', ht', hvar, hd, _, _⟩, _⟩ := h
  obtain rfl := Option.some.inj (gBad.symm.trans hg')
  obtain rfl := Option.some.inj (gBadType.symm.trans ht')
  obtain ⟨y0, y1, y2, n, hx, hl, h0, h1, h2⟩ := Deep.trod_struct3 Tryd.underlying60 hd
  simp only [Rows.laid_galley_step_bad, Prod.mk.injEq, DataW.agg.injEq, List.cons.injEq, and_true] at hx
  obtain ⟨⟨e0, e1, e2⟩, -⟩ := hx
  rw [cells60] at hl
  simp only [cells21, cells3, cells4, List.drop_zero] at h0 h1 h2
  obtain ⟨z0, c0, x0, -⟩ := DataW.trod_int Tryd.underlying21 h0
  obtain ⟨z1, c1, x1, -⟩ := DataW.trod_int Tryd.underlying3 h1
  obtain ⟨z2, c2, x2⟩ := DataW.trod_bool Tryd.underlying4 h2
  rw [x0] at e0
  rw [x1] at e1
  rw [x2] at e2
  simp only [DataW.lit.injEq, Lit.int.injEq, Lit.bool.injEq, true_and] at e0 e1 e2
  subst e0 e1 e2
  have hv := fun i => World.var?_cell gBad hvar i
  have g0 : cs[0]? = some (.int .i32 65533) := by
    have := congrArg (·[0]?) c0
    simpa [List.getElem?_take, List.getElem?_drop] using this
  have g1 : cs[1]? = some (.int .i64 1) := by
    have := congrArg (·[0]?) c1
    simpa [List.getElem?_take, List.getElem?_drop] using this
  have g2 : cs[2]? = some (.bool false) := by
    have := congrArg (·[0]?) c2
    simpa [List.getElem?_take, List.getElem?_drop] using this
  exact ⟨(hv 0).trans g0, (hv 1).trans g1, (hv 2).trans g2⟩

/-- a slice of bytes as the walks want it -/
def IsRow (k : IntKind) (w : World) (a : Option Addr) (len cap : Nat) (zs : List Int) : Prop :=
  (a = none ∧ len = 0 ∧ cap = 0 ∧ zs = []) ∨
  ∃ x, a = some x ∧ len ≤ cap ∧ cap ≤ maxLen ∧ zs.length = cap ∧ (∀ i, i < zs.length → w.cell? (x.add i) = some (.int k (zs.getD i 0))) ∧ ∀ n ∈ zs, (Lit.int k n).wf = true
theorem bytes_row {H : Type} {enc : TypeId × Value → H} {W : World} {base : Nat} {held : Bool} {a : Option Addr} {len cap : Nat} {d : DataW H} {p : List MemPlace}
    (h : DataW.Trod enc Tryd.prog W base (fun _ => true) held 22 (.slice a len cap) d p) : ∃ zs, IsRow .u8 W a len cap zs := by
  obtain ⟨fuel, hf⟩ := h
  rcases open_ints Tryd.underlying22 Tryd.underlying5 (by kernel_rfl) hf with ⟨hcs, _⟩ | ⟨x, l, c, zs, hcs, _, hl, hm, hz, _, hcell, hwz⟩
  · simp [Value.cells] at hcs
    obtain ⟨rfl, rfl, rfl⟩ := hcs
    exact ⟨[], .inl ⟨rfl, rfl, rfl, rfl⟩⟩
  · simp [Value.cells] at hcs
    obtain ⟨rfl, rfl, rfl⟩ := hcs
    exact ⟨zs, .inr ⟨_, rfl, hl, hm, by simpa using hz, hcell, hwz⟩⟩

/-! ### the bound -/
theorem bulk_bound {H : Type} {l : List (DataW H)} (hk : Rows.uptoSmall H l = true) : Rows.uptoBulkAll l ≤ 1048576 := by
  simpa [Rows.uptoSmall] using hk
theorem bulk_part {H : Type} {d : DataW H} {l : List (DataW H)} (h : d ∈ l) : Rows.uptoBulk d ≤ Rows.uptoBulkAll l := by
  induction l with
  | nil => cases h
  | cons x r ih =>
    simp only [Rows.uptoBulkAll]
    cases List.mem_cons.1 h with
    | inl e => subst e; omega
    | inr e => have := ih e; omega
theorem bulk_one {H : Type} (d : DataW H) : 1 ≤ Rows.uptoBulk d := by
  cases d with
  | lit l => cases l <;> simp [Rows.uptoBulk]
  | nil => simp [Rows.uptoBulk]
  | ptr d => simp [Rows.uptoBulk]
  | slice elems spare => simp [Rows.uptoBulk]
  | agg parts => simp [Rows.uptoBulk]
  | iface t d => simp [Rows.uptoBulk]
  | map entries => simp [Rows.uptoBulk]
  | held h => simp [Rows.uptoBulk]
theorem bulk_count {H : Type} (l : List (DataW H)) : l.length ≤ Rows.uptoBulkAll l := by
  induction l with
  | nil => simp [Rows.uptoBulkAll]
  | cons x r ih => have := bulk_one x; simp only [Rows.uptoBulkAll, List.length_cons]; omega
theorem bulk_len {H : Type} {d : DataW H} {l : List (DataW H)} (h : d ∈ l) (hb : Rows.uptoBulkAll l ≤ 1048576) : Joins.sliceLen d ≤ 1048576 := by
  have h1 := bulk_part h
  cases d with
  | slice elems spare =>
    have := bulk_count elems
    simp only [Rows.uptoBulk] at h1
    simp only [Joins.sliceLen]; omega
  | _ => simp [Joins.sliceLen]

/-- a world for the witness: step.bad (block 0) holding what its initialiser lays -/
noncomputable def laidWorld (os : Os) : World :=
  { World.holding Tryd.prog os ⟨#[], #[], []⟩ with heap := (World.holding Tryd.prog os ⟨#[], #[], []⟩).heap.modify 0 fun
      | .cells _ t frozen => .cells #[.int .i32 65533, .int .i64 1, .bool false] t frozen
      | o => o }
end Go.Proofs.YtdomggegacgmnaaDoor.law
