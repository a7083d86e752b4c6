/- The fixed fact that each statement asks first: it is true. -/
import Derived.Test.YtjladdjpnicldaaGBehind
namespace Go.Proofs.Ytjladdjpnicldaa.PA
open Go.RowKit Go.Maps Go.Proofs.YtjladdjpnicldaaW.PrintWords Go.Proofs.YtjladdjpnicldaaW.PrintLast Go.Proofs.YtjladdjpnicldaaW.PrintMore

def exD : List S56 := [⟨1, 2, ⟨#[]⟩⟩, ⟨2, 0, ⟨#[120, 121]⟩⟩, ⟨1, 8, ⟨#[]⟩⟩]
def exR : S24 := ⟨⟨#[97]⟩, 2, 5, 2, 1⟩
theorem exD_valid : validV exD = true := by
  simp [validV, opsV, opV, nextV, exD, sumsV, fromN, toN, ByteArray.toList_eq, ByteArray.size]
theorem exD_sums : sumsV 0 0 exD = some (10, 12) := by
  simp [exD, sumsV, fromN, toN, ByteArray.size]
theorem exD_sane : Sane exD := (saneB_iff exD).1 (by decide)
theorem exD_place1 : placeV exD 2 2 = 4 := by
  simp [placeV, changesV, stateC, stepC, exD, placeL, ByteArray.size]
theorem exD_place2 : placeV exD 5 1 = 7 := by
  simp [placeV, changesV, stateC, stepC, exD, placeL, ByteArray.size]
theorem exD_moved : movedRows exD (sortN [exR]) = [⟨⟨#[97]⟩, 4, 7, 2, 1⟩] := by
  simp [movedRows, sortN, movR, exR, exD_place1, exD_place2]
theorem exD_gone : goneNames exD (sortN [exR]) = [] := by
  simp [goneNames, sortN, movR, exR, exD_place1, exD_place2]

/-- a delta that lies whole in a block -/
def opCells (l : List S56) : List Value := l.flatMap (fun o => [.int .i64 o.f0, .int .i64 o.f1, .string o.f2])
theorem opCells_get : ∀ (l : List S56) (j : Nat) (p : S56), l[j]? = some p → ∀ (i : Nat) (u : Value), [Value.int .i64 p.f0, .int .i64 p.f1, .string p.f2][i]? = some u → (opCells l)[j * 3 + i]? = some u
  | [], j, p, h, _, _, _ => by simp at h
  | o :: l, 0, p, h, i, u, hu => by
    simp only [List.getElem?_cons_zero, Option.some.injEq] at h
    subst h
    show (_ ++ opCells l)[0 * 3 + i]? = _
    rw [Nat.zero_mul, Nat.zero_add, List.getElem?_append_left]
    · exact hu
    · exact (List.getElem?_eq_some_iff.1 hu).1
  | o :: l, j + 1, p, h, i, u, hu => by
    rw [List.getElem?_cons_succ] at h
    show (_ ++ opCells l)[(j + 1) * 3 + i]? = _
    rw [List.getElem?_append_right (by simp; omega)]
    have := opCells_get l j p h i u hu
    rw [← this]
    congr 1
    simp
    omega
theorem C_of_block {W : World} {g t : Nat} {cs : Array Value} (l : List S56) (hb : W.heap[g]? = some (.cells cs t (0, 0))) (hcs : cs.toList = opCells l) (hl : l.length ≤ 9223372036854775807) : Kd.C k56 W (some ⟨g, 0, none⟩) l.length l := by
  refine ⟨rfl, hl, fun _ => ⟨_, rfl, fun j p hj => ⟨[.int .i64 p.f0, .int .i64 p.f1, .string p.f2], rfl, k56_mk W p, fun i u hu => ?_⟩⟩⟩
  have := opCells_get l j p hj i u hu
  rw [← hcs, Array.getElem?_toList] at this
  have h2 : (⟨g, 0, none⟩ : Addr).add (j * k56.sz + i) = ⟨g, j * 3 + i, none⟩ := by rw [add_plain]; rfl
  rw [h2]
  exact (blk_cell hb _).trans this

set_option maxHeartbeats 4000000 in
set_option maxRecDepth 100000 in
theorem awake_walk (w : World) : Calls Try.prog 10 #[] w fun e w' => e = .returned (.bool true) ∧ Below w.heap.size w w' := by
  have hN := Aside0.mk (new_ok 10 w (by omega) (by omega))
  go_enter Try.func10, Try.ntmps10
  go_wp2_with fail
  refine hN.out.mono ?_
  rintro e W1 ⟨b1, rfl, o1, B1⟩
  have HO1 := Aside0.mk o1
  have HB1 := Aside0.mk B1
  clear hN o1 B1
  go_wp2_with fail
  refine (set_ok exR W1 b1 10 [] HO1.out (by decide) (by decide) (by decide) (by decide)).mono ?_
  rintro e W2 ⟨b2, rfl, o2, B2⟩
  have HO2 := Aside0.mk o2
  have HB2 := Aside0.mk (below_then HB1.out HB1.out.size B2)
  clear o2 B2
  go_wp2_with fail
  have hblk := (MapKept.heap_alloc W2 (.cells (opCells exD).toArray 56)).1
  have hC := C_of_block exD hblk (by simp) (by decide)
  have hBh := behind_ok (some ⟨W2.heap.size, 0, none⟩) 3 exD _ b2 10 12 [exR] (HO2.out.below (below_alloc (Below.refl _ _) (.cells (opCells exD).toArray 56))) hC (by decide) exD_sane exD_valid exD_sums (by
    intro x hx
    rw [List.mem_singleton.1 hx]
    exact ⟨by decide, by decide, by decide, by decide, by decide, .inr rfl, .inl rfl⟩) (by decide)
  rw [exD_moved, exD_gone] at hBh
  refine hBh.mono ?_
  rintro e W3 ⟨b3, vg, rfl, o3, hg, B3⟩
  have HB3 := Aside0.mk (below_then (below_alloc HB2.out _) (by simp; exact Nat.le_succ_of_le HB2.out.size) B3)
  obtain ⟨Ag, cg, rfl⟩ := Kd.R_slice hg
  have HO3 := Aside0.mk o3
  clear hblk hC hBh o3 hg B3
  go_wp2_with fail
  have hG : Calls Try.prog 15 #[.pointer (some ⟨b3, 0, none⟩), .string ⟨#[97]⟩] W3 fun e w' => e = .returned (.tuple #[.agg #[.string ⟨#[97]⟩, .int .i64 4, .int .i64 7, .int .i64 2, .int .i64 1], .bool true]) ∧ Below W3.heap.size W3 w' := get_obj ⟨#[97]⟩ W3 b3 12 _ HO3.out (by decide)
  refine hG.mono ?_
  rintro e W4 ⟨rfl, B4⟩
  have HB4 := Aside0.mk (below_then HB3.out HB3.out.size B4)
  clear hG B4
  go_wp2_with fail
  go_ret
  exact ⟨rfl, below_alloc HB4.out _⟩
end Go.Proofs.Ytjladdjpnicldaa.PA
