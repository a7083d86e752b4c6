/- What each law's row needs: the listed variable gives Laid; a slice of bytes is opened; the looks are off. -/
import Derived.Test.YtdomggegacgmnaaDoorCards
import Derived.Test.YtdomggegacgmnaaDoorTie
import Derived.Test.YtdomggegacgmnaaDoorGLaid
import Derived.WalkKit
import Derived.ProofKit
import Derived.OpenShut
import Derived.ChangeOld
import Derived.Below
import Derived.SizedLaws
import Derived.Deep.DeepHandedRow
import Derived.Lib.LaidTab
import Derived.Lib.SmallJoins
import Derived.Test.YtdomggegacgmnaaDoorWSized
import Derived.Test.YtdomggegacgmnaaDoorWWords
import Derived.Deep.Matrix
namespace Go.Proofs.YtdomggegacgmnaaDoor.law
open Go.ChangeShapes Go.WideShapes Go.ChangeAt Go.RowKit

theorem own : ownKnob Tryd.prog.godebug = none := by kernel_rfl
theorem gBad : Tryd.prog.globalNamed "galley/step.bad" = some 0 := by kernel_rfl
theorem gBadType : (Tryd.prog.globals[0]?).map (·.type) = some 60 := by kernel_rfl
theorem cells60 : Tryd.prog.cellsOf 60 = 3 := by kernel_rfl
theorem cells21 : Tryd.prog.cellsOf 21 = 1 := by kernel_rfl
theorem cells3 : Tryd.prog.cellsOf 3 = 1 := by kernel_rfl
theorem cells4 : Tryd.prog.cellsOf 4 = 1 := by kernel_rfl
theorem laidOut : laidOutB Tryd.prog = true := by kernel_rfl

/-- what the row's list gives: step.bad's cells -/
theorem laid_of {W : World} (h : laidMetH Tryd.prog [("galley/step.bad", Rows.laid_galley_step_bad)] W) : PA.Laid W := by
  replace h : laidMet Tryd.prog [("galley/step.bad", Rows.laid_galley_step_bad)] W := h
  obtain ⟨ps, ⟨g', t', cs, fuel, p, q, hg', ht', hvar, hd, _, _⟩, _⟩ := h
  obtain rfl := Option.some.inj (gBad.symm.trans hg')
  obtain rfl := Option.some.inj (gBadType.symm.trans ht')
  obtain ⟨y0, y1, y2, n, hx, hl, h0, h1, h2⟩ := Deep.trod_struct3 Tryd.underlying60 hd
  simp only [Rows.laid_galley_step_bad, Prod.mk.injEq, DataW.agg.injEq, List.cons.injEq, and_true] at hx
  obtain ⟨⟨e0, e1, e2⟩, -⟩ := hx
  rw [cells60] at hl
  simp only [cells21, cells3, cells4, List.drop_zero] at h0 h1 h2
  obtain ⟨z0, c0, x0, -⟩ := DataW.trod_int Tryd.underlying21 h0
  obtain ⟨z1, c1, x1, -⟩ := DataW.trod_int Tryd.underlying3 h1
  obtain ⟨z2, c2, x2⟩ := DataW.trod_bool Tryd.underlying4 h2
  rw [x0] at e0
  rw [x1] at e1
  rw [x2] at e2
  simp only [DataW.lit.injEq, Lit.int.injEq, Lit.bool.injEq, true_and] at e0 e1 e2
  subst e0 e1 e2
  have hv := fun i => World.var?_cell gBad hvar i
  have g0 : cs[0]? = some (.int .i32 65533) := by
    have := congrArg (·[0]?) c0
    simpa [List.getElem?_take, List.getElem?_drop] using this
  have g1 : cs[1]? = some (.int .i64 1) := by
    have := congrArg (·[0]?) c1
    simpa [List.getElem?_take, List.getElem?_drop] using this
  have g2 : cs[2]? = some (.bool false) := by
    have := congrArg (·[0]?) c2
    simpa [List.getElem?_take, List.getElem?_drop] using this
  exact ⟨(hv 0).trans g0, (hv 1).trans g1, (hv 2).trans g2⟩

/-- a slice of bytes as the walks want it -/
def IsRow (k : IntKind) (w : World) (a : Option Addr) (len cap : Nat) (zs : List Int) : Prop :=
  (a = none ∧ len = 0 ∧ cap = 0 ∧ zs = []) ∨
  ∃ x, a = some x ∧ len ≤ cap ∧ cap ≤ maxLen ∧ zs.length = cap ∧ (∀ i, i < zs.length → w.cell? (x.add i) = some (.int k (zs.getD i 0))) ∧ ∀ n ∈ zs, (Lit.int k n).wf = true
theorem bytes_row {H : Type} {enc : TypeId × Value → H} {W : World} {base : Nat} {held : Bool} {a : Option Addr} {len cap : Nat} {d : DataW H} {p : List MemPlace}
    (h : DataW.Trod enc Tryd.prog W base (fun _ => true) held 22 (.slice a len cap) d p) : ∃ zs, IsRow .u8 W a len cap zs := by
  obtain ⟨fuel, hf⟩ := h
  rcases open_ints Tryd.underlying22 Tryd.underlying5 (by kernel_rfl) hf with ⟨hcs, _⟩ | ⟨x, l, c, zs, hcs, _, hl, hm, hz, _, hcell, hwz⟩
  · simp [Value.cells] at hcs
    obtain ⟨rfl, rfl, rfl⟩ := hcs
    exact ⟨[], .inl ⟨rfl, rfl, rfl, rfl⟩⟩
  · simp [Value.cells] at hcs
    obtain ⟨rfl, rfl, rfl⟩ := hcs
    exact ⟨zs, .inr ⟨_, rfl, hl, hm, by simpa using hz, hcell, hwz⟩⟩

/-! ### the bound -/
theorem bulk_bound {H : Type} {l : List (DataW H)} (hk : Rows.uptoSmall H l = true) : Rows.uptoBulkAll l ≤ 1048576 := by
  simpa [Rows.uptoSmall] using hk
theorem bulk_part {H : Type} {d : DataW H} {l : List (DataW H)} (h : d ∈ l) : Rows.uptoBulk d ≤ Rows.uptoBulkAll l := by
  induction l with
  | nil => cases h
  | cons x r ih =>
    simp only [Rows.uptoBulkAll]
    cases List.mem_cons.1 h with
    | inl e => subst e; omega
    | inr e => have := ih e; omega
theorem bulk_one {H : Type} (d : DataW H) : 1 ≤ Rows.uptoBulk d := by
  cases d with
  | lit l => cases l <;> simp [Rows.uptoBulk]
  | nil => simp [Rows.uptoBulk]
  | ptr d => simp [Rows.uptoBulk]
  | slice elems spare => simp [Rows.uptoBulk]
  | agg parts => simp [Rows.uptoBulk]
  | iface t d => simp [Rows.uptoBulk]
  | map entries => simp [Rows.uptoBulk]
  | held h => simp [Rows.uptoBulk]
theorem bulk_count {H : Type} (l : List (DataW H)) : l.length ≤ Rows.uptoBulkAll l := by
  induction l with
  | nil => simp [Rows.uptoBulkAll]
  | cons x r ih => have := bulk_one x; simp only [Rows.uptoBulkAll, List.length_cons]; omega
theorem bulk_len {H : Type} {d : DataW H} {l : List (DataW H)} (h : d ∈ l) (hb : Rows.uptoBulkAll l ≤ 1048576) : Joins.sliceLen d ≤ 1048576 := by
  have h1 := bulk_part h
  cases d with
  | slice elems spare =>
    have := bulk_count elems
    simp only [Rows.uptoBulk] at h1
    simp only [Joins.sliceLen]; omega
  | _ => simp [Joins.sliceLen]

/-- a world for the witness: step.bad (block 0) holding what its initialiser lays -/
noncomputable def laidWorld (os : Os) : World :=
  { World.holding Tryd.prog os ⟨#[], #[], []⟩ with heap := (World.holding Tryd.prog os ⟨#[], #[], []⟩).heap.modify 0 fun
      | .cells _ t frozen => .cells #[.int .i32 65533, .int .i64 1, .bool false] t frozen
      | o => o }
end Go.Proofs.YtdomggegacgmnaaDoor.law

/- A slice of slices of bytes that came in, opened whole: a list of lists of numbers from 0 to 255; its bulk bounds all lengths. -/
namespace Go.Proofs.YtdomggegacgmnaaDoor.law
open Go.ChangeShapes Go.WideShapes Go.ChangeAt Go.RowKit Go.Proofs.YtdomggegacgmnaaDoorW.PrintWords

theorem bulk_row {H : Type} (A : Option Addr) (L : Nat) (zs : List Int) (hA : A = none → L = 0) (hL : L ≤ zs.length) : L + 1 ≤ Rows.uptoBulk (Deep.intRow (H := H) .u8 A L zs) := by
  cases A with
  | none => simp [Deep.intRow, Rows.uptoBulk, hA rfl]
  | some a =>
    simp only [Deep.intRow, Rows.uptoBulk]
    have := bulk_count (lits (H := H) .u8 (zs.take L))
    have e : (lits (H := H) .u8 (zs.take L)).length = L := by simp [lits]; omega
    omega
/-- the sum of the lengths of all rows, and their number -/
theorem bulk_rows_in {H : Type} (f : Nat → DataW H) (L : Nat → Nat) : ∀ (l : List Nat) (_ : ∀ r ∈ l, L r + 1 ≤ Rows.uptoBulk (f r)), (l.map L).sum + l.length ≤ Rows.uptoBulkAll (l.map f)
  | [], _ => by simp [Rows.uptoBulkAll]
  | r :: l, h => by
    have := h r (by simp)
    have := bulk_rows_in f L l (fun r hr => h r (by simp [hr]))
    simp only [List.map_cons, List.sum_cons, List.length_cons, Rows.uptoBulkAll]; omega
/-- a slice of slices of bytes as the walks want it; its bulk bounds the sum of the lengths -/
theorem rows_open {H : Type} {enc : TypeId × Value → H} {W : World} {base : Nat} {held : Bool} {a : Option Addr} {len cap : Nat} {d : DataW H} {p : List MemPlace}
    (h : DataW.Trod enc Tryd.prog W base (fun _ => true) held 33 (.slice a len cap) d p) :
    ∃ ls : List (List Int), ls.length = len ∧ len ≤ cap ∧ Kd.C (Kd.slice 5 (Kd.int .u8)) W a ls.length ls ∧ (∀ l ∈ ls, ∀ x ∈ l, (Lit.int .u8 x).wf = true) ∧ (ls.map List.length).sum + ls.length ≤ Rows.uptoBulk d := by
  obtain ⟨fuel, hf⟩ := h
  rcases Deep.open_int_rows Tryd.underlying33 Tryd.underlying22 Tryd.underlying5 (by kernel_rfl) (by kernel_rfl) hf with ⟨hcs, _⟩ | ⟨a', len', cap', A, L, C, Z, hcs, _, hl, hm, hx, hr⟩
  · simp [Value.cells] at hcs
    obtain ⟨rfl, rfl, rfl⟩ := hcs
    exact ⟨[], rfl, Nat.le_refl _, ⟨rfl, by simp, fun h => absurd h (by simp)⟩, by simp, by simp⟩
  · simp [Value.cells] at hcs
    obtain ⟨rfl, rfl, rfl⟩ := hcs
    refine ⟨(List.range len).map fun r => (Z r).take (L r), by simp, hl, ⟨by simp, ?_, ?_⟩, ?_, ?_⟩
    · have : maxLen ≤ 9223372036854775807 := by decide
      simp; omega
    · intro _
      refine ⟨a', rfl, fun j p hj => ?_⟩
      have hjl : j < len := by
        have := (List.getElem?_eq_some_iff.1 hj).1
        simpa using this
      obtain ⟨hc, hlc, hcm, hz, hw, hn, ha⟩ := hr j (by omega)
      obtain rfl : (Z j).take (L j) = p := by
        rw [List.getElem?_map, List.getElem?_range hjl] at hj
        simpa using hj
      have hlen : ((Z j).take (L j)).length = L j := by simp; omega
      refine ⟨[.slice (A j) (L j) (C j)], rfl, ⟨A j, C j, by rw [hlen], by omega, ?_⟩, fun i u hu => ?_⟩
      · have hms : maxLen ≤ 9223372036854775807 := by decide
        rw [hlen]
        refine ⟨hlen, by omega, fun h0 => ?_⟩
        match hA : A j with
        | none => have := hn hA; omega
        | some ad =>
          refine ⟨ad, rfl, fun i q hq => ⟨[.int .u8 q], rfl, rfl, fun m u hu => ?_⟩⟩
          have hi : i < L j := by
            have := (List.getElem?_eq_some_iff.1 hq).1
            omega
          have hc2 := (ha ad hA).2 i (by omega)
          have e : (Z j).getD i 0 = q := by
            rw [List.getElem?_take_of_lt hi] at hq
            rw [List.getD_eq_getElem?_getD, hq]; rfl
          match m, hu with
          | 0, hu =>
            obtain rfl : (Value.int .u8 q) = u := by simpa using hu
            rw [e] at hc2
            show W.cell? (ad.add (i * 1 + 0)) = _
            rw [Nat.mul_one, Nat.add_zero]; exact hc2
          | m + 1, hu => simp at hu
      · match i, hu with
        | 0, hu =>
          obtain rfl : (Value.slice (A j) (L j) (C j)) = u := by simpa using hu
          show W.cell? (a'.add (j * 1 + 0)) = _
          rw [Nat.mul_one, Nat.add_zero]; exact hc
        | i + 1, hu => simp at hu
    · intro l hl2 x hx2
      obtain ⟨r, hr2, rfl⟩ := List.mem_map.1 hl2
      have := List.mem_range.1 hr2
      exact (hr r (by omega)).2.2.2.2.1 x (List.mem_of_mem_take hx2)
    · have ed : d = .slice ((List.range len).map fun r => Deep.intRow .u8 (A r) (L r) (Z r)) ((List.range (cap - len)).map fun j => Deep.intRow .u8 (A (len + j)) (L (len + j)) (Z (len + j))) := (Prod.mk.inj hx).1
      rw [ed]
      simp only [Rows.uptoBulk, List.map_map, List.length_map, List.length_range]
      have hb := bulk_rows_in (H := H) (fun r => Deep.intRow .u8 (A r) (L r) (Z r)) L (List.range len) (fun r hr2 => by
        have := List.mem_range.1 hr2
        obtain ⟨hc, hlc, hcm, hz, hw, hn, ha⟩ := hr r (by omega)
        exact bulk_row _ _ _ (fun h => by have := hn h; omega) (by omega))
      have e : (List.range len).map (List.length ∘ fun r => (Z r).take (L r)) = (List.range len).map L := by
        refine List.map_congr_left fun r hr2 => ?_
        have := List.mem_range.1 hr2
        obtain ⟨hc, hlc, hcm, hz, hw, hn, ha⟩ := hr r (by omega)
        simp; omega
      rw [e]
      simp only [List.length_range] at hb
      omega
end Go.Proofs.YtdomggegacgmnaaDoor.law
