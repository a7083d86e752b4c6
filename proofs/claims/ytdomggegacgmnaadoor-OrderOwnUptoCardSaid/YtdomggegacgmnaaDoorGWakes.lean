/- galleylaw31.wakes: the calls whose answers the document fixes: true. Condition: step.bad is laid (Laid). -/
import Derived.Test.YtdomggegacgmnaaDoorGCommon
import Derived.Test.YtdomggegacgmnaaDoorGSort
import Derived.Test.YtdomggegacgmnaaDoorPAx9
import Derived.Lib.SlBytesConst
import Derived.Test.YtdomggegacgmnaaDoorPAx2
namespace Go.Proofs.YtdomggegacgmnaaDoor.PA
open Go.RowKit Go.Proofs.YtdomggegacgmnaaDoorW.PrintWords Go.Proofs.YtdomggegacgmnaaDoorW.PrintLast Go.Proofs.YtdomggegacgmnaaDoorW.PrintMore

theorem ms3 {α : Type} (le : α → α → Bool) (a b c : α) (h1 : le a b = true) (h2 : le a c = false) : [a, b, c].mergeSort le = [c, a, b] := by
  have e : [a, b, c].mergeSort le = ([a, b].mergeSort le).merge ([c].mergeSort le) le := by
    conv => lhs; rw [List.mergeSort]
    rw [List.MergeSort.Internal.splitInTwo_fst, List.MergeSort.Internal.splitInTwo_snd]; simp
  have e2 : [a, b].mergeSort le = [a, b] := by
    have : [a, b].mergeSort le = ([a].mergeSort le).merge ([b].mergeSort le) le := by
      conv => lhs; rw [List.mergeSort]
      rw [List.MergeSort.Internal.splitInTwo_fst, List.MergeSort.Internal.splitInTwo_snd]; simp
    rw [this, List.mergeSort_singleton, List.mergeSort_singleton]
    simp [h1]
  rw [e, e2, List.mergeSort_singleton]
  simp [h2]
theorem wk_c1 : order_Compare.f [239, 189, 129] [240, 144, 128, 128] 1 = some (-1, 0) := by decide +kernel
theorem wk_c3 : order_Compare.f [239, 189, 129] [240, 144, 128, 128] 3 = some (1, 0) := by decide +kernel
theorem wk_so : order_Sort.f [[255], [239, 191, 189], [97]] 2 = some ([[97], [255], [239, 191, 189]], 0) := by
  have h : sortV [[255], [239, 191, 189], [97]] 2 = [[97], [255], [239, 191, 189]] := ms3 _ _ _ _ (by decide +kernel) (by decide +kernel)
  unfold order_Sort.f
  rw [h]
  decide +kernel
theorem wk_a1 : order_Agree.f [239, 189, 129] [240, 144, 128, 128] = some false := by decide +kernel
theorem wk_a2 : order_Agree.f [97] [97, 98] = some true := by decide +kernel
theorem wk_co : order_Common.f [97, 98, 99] [97, 98, 100] = some 2 := by decide +kernel
theorem wk_fo : order_Fold.f 10 [65, 98, 90, 91] = some [97, 98, 122, 91] := by decide +kernel

/-- a literal's bytes -/
def litO (xs : List Int) (n : Nat) : Obj := .cells (nums .u8 xs).toArray 5 (n, n + 1)
theorem lit_C (W : World) (xs : List Int) (n m : Nat) (hn : n = xs.length) (hm : n < 100) : Kd.C (Kd.int .u8) (W.alloc (litO xs m)) (some ⟨W.heap.size, 0, none⟩) n xs := by
  subst hn
  refine Kd.C_of_reads (d := (0 : Int)) (enc := Value.int .u8) (h1 := fun _ => rfl) ⟨rfl, by omega, fun _ => ⟨_, rfl, fun j hj => ?_⟩⟩
  have hb : (⟨W.heap.size, 0, none⟩ : Addr).add j = ⟨W.heap.size, j, none⟩ := by unfold Addr.add; split <;> simp_all
  rw [hb, cell_of_row _ _ _ _ _ _ (heap_alloc_new W (litO xs m))]
  simp [nums, List.getElem?_eq_getElem hj, List.getD_eq_getElem?_getD]

theorem lit3_C (W : World) (a b c : Addr) (na nb nc : Nat) (xa xb xc : List Int) (ha : Kd.C (Kd.int .u8) W (some a) na xa) (hb : Kd.C (Kd.int .u8) W (some b) nb xb) (hc : Kd.C (Kd.int .u8) W (some c) nc xc) :
    Kd.C (Kd.slice 5 (Kd.int .u8)) (W.alloc (.cells #[.slice (some a) na na, .slice (some b) nb nb, .slice (some c) nc nc] 22)) (some ⟨W.heap.size, 0, none⟩) 3 [xa, xb, xc] := by
  have key : ∀ (j : Nat) (p : List Int) (A : Addr) (n : Nat), Kd.C (Kd.int .u8) W (some A) n p → (#[Value.slice (some a) na na, .slice (some b) nb nb, .slice (some c) nc nc] : Array Value)[j]? = some (.slice (some A) n n) →
      ∃ cs : List Value, cs.length = 1 ∧ (Kd.slice 5 (Kd.int .u8)).K (W.alloc (.cells #[.slice (some a) na na, .slice (some b) nb nb, .slice (some c) nc nc] 22)) p cs ∧ ∀ i u, cs[i]? = some u → (W.alloc (.cells #[.slice (some a) na na, .slice (some b) nb nb, .slice (some c) nc nc] 22)).cell? ((⟨W.heap.size, 0, none⟩ : Addr).add (j * 1 + i)) = some u := by
    intro j p A n h hj
    have hn : p.length = n := h.1
    subst hn
    refine ⟨[.slice (some A) p.length p.length], rfl, ⟨_, _, rfl, Nat.le_refl _, Kd.C_below h (below_alloc (Below.refl _ _) _)⟩, fun i u hu => ?_⟩
    cases i with
    | zero =>
      have e : (⟨W.heap.size, 0, none⟩ : Addr).add (j * 1 + 0) = ⟨W.heap.size, j, none⟩ := by unfold Addr.add; split <;> simp_all
      rw [e, blk_cell (heap_alloc_new W _), hj]
      simpa using hu
    | succ i => simp at hu
  refine ⟨rfl, by omega, fun _ => ⟨_, rfl, fun j p hj => ?_⟩⟩
  match j, hj with
  | 0, hj => cases hj; exact key 0 _ a na ha rfl
  | 1, hj => cases hj; exact key 1 _ b nb hb rfl
  | 2, hj => cases hj; exact key 2 _ c nc hc rfl
  | j + 3, hj => simp at hj

/-- the mark of a constant's bytes, the row at a block of its own number -/
theorem kc_at (w : World) (C : Array Value) (n b : Nat) (hb : w.heap.size = b) : (convert 22 22 (.slice (some ⟨b, 0, none⟩) n n)).run Tryd.prog (w.alloc (.cells C 5)) = .ok (.slice (some ⟨b, 0, none⟩) n n) (w.alloc (.cells C 5 (C.size, C.size + 1))) := by
  subst hb
  exact Lib.run_convert_bytes_const (P := Tryd.prog) w 22 5 C n n Tryd.underlying22 Tryd.underlying5
theorem alloc1 (w : World) (o : Obj) : (w.alloc o).heap.size = w.heap.size + 1 := by simp

set_option maxHeartbeats 16000000 in
set_option maxRecDepth 100000 in
theorem wakes_walk (w : World) (hL : Laid w) : Calls Tryd.prog 11 #[] w fun e w' => e = .returned (.bool true) ∧ Below w.heap.size w w' := by
  have HL := Aside0.mk hL
  clear hL
  have k1 := kc_at w #[.int .u8 239, .int .u8 189, .int .u8 129] 3 w.heap.size rfl
  have k2 := kc_at (w.alloc (.cells #[.int .u8 239, .int .u8 189, .int .u8 129] 5 (3, 4))) #[.int .u8 240, .int .u8 144, .int .u8 128, .int .u8 128] 4 (w.heap.size + 1) (alloc1 _ _)
  go_enter Tryd.func11, Tryd.ntmps11
  go_wp2_with fail
  have hA := lit_C w [239, 189, 129] 3 3 rfl (by decide)
  have hB := lit_C (w.alloc (litO [239, 189, 129] 3)) [240, 144, 128, 128] 4 4 rfl (by decide)
  have hA := Kd.C_below hA (below_alloc (Below.refl _ _) (litO [240, 144, 128, 128] 4))
  have hb : Below w.heap.size w ((w.alloc (litO [239, 189, 129] 3)).alloc (litO [240, 144, 128, 128] 4)) := below_alloc (below_alloc (Below.refl _ _) _) _
  clear k1 k2
  have hW : (w.alloc (Obj.cells #[Value.int IntKind.u8 239, Value.int IntKind.u8 189, Value.int IntKind.u8 129] 5 (3, 4))).alloc (Obj.cells #[Value.int IntKind.u8 240, Value.int IntKind.u8 144, Value.int IntKind.u8 128, Value.int IntKind.u8 128] 5 (4, 5)) = (w.alloc (litO [239, 189, 129] 3)).alloc (litO [240, 144, 128, 128] 4) := rfl
  rw [hW]
  clear hW
  generalize (w.alloc (litO [239, 189, 129] 3)).alloc (litO [240, 144, 128, 128] 4) = W1 at hA hB hb ⊢
  rw [show (w.alloc (litO [239, 189, 129] 3)).heap.size = w.heap.size + 1 by simp] at hB
  generalize (⟨w.heap.size, 0, none⟩ : Addr) = pA at hA ⊢
  generalize (⟨w.heap.size + 1, 0, none⟩ : Addr) = pB at hB ⊢
  refine (order_Compare.calls (some pA) 3 [239, 189, 129] (some pB) 4 [240, 144, 128, 128] 1 (-1) 0 W1 hA (Nat.le_refl _) hB (Nat.le_refl _) wk_c1).mono ?_
  rintro e W2 ⟨rfl, h2⟩
  have HA := Aside0.mk (Kd.C_below hA h2)
  have HB := Aside0.mk (Kd.C_below hB h2)
  have HX := Aside0.mk (below_then hb hb.size h2)
  clear hA hB hb h2
  go_wp2_with fail
  refine (order_Compare.calls (some pA) 3 [239, 189, 129] (some pB) 4 [240, 144, 128, 128] 3 1 0 W2 HA.out (Nat.le_refl _) HB.out (Nat.le_refl _) wk_c3).mono ?_
  rintro e W3 ⟨rfl, h2⟩
  have HA := Aside0.mk (Kd.C_below HA.out h2)
  have HB := Aside0.mk (Kd.C_below HB.out h2)
  have HX := Aside0.mk (below_then HX.out HX.out.size h2)
  clear h2
  have k1 := kc_at W3 #[.int .u8 255] 1 W3.heap.size rfl
  have k2 := kc_at (W3.alloc (.cells #[.int .u8 255] 5 (1, 2))) #[.int .u8 239, .int .u8 191, .int .u8 189] 3 (W3.heap.size + 1) (alloc1 _ _)
  have k3 := kc_at ((W3.alloc (.cells #[.int .u8 255] 5 (1, 2))).alloc (.cells #[.int .u8 239, .int .u8 191, .int .u8 189] 5 (3, 4))) #[.int .u8 97] 1 (W3.heap.size + 1 + 1) (by rw [alloc1, alloc1])
  go_wp2_with fail
  clear k1 k2 k3
  have q1 := Kd.C_below (Kd.C_below (lit_C W3 [255] 1 1 rfl (by decide)) (below_alloc (Below.refl _ _) (litO [239, 191, 189] 3))) (below_alloc (Below.refl _ _) (litO [97] 1))
  have q2 := Kd.C_below (lit_C (W3.alloc (litO [255] 1)) [239, 191, 189] 3 3 rfl (by decide)) (below_alloc (Below.refl _ _) (litO [97] 1))
  have q3 := lit_C ((W3.alloc (litO [255] 1)).alloc (litO [239, 191, 189] 3)) [97] 1 1 rfl (by decide)
  rw [alloc1] at q2
  rw [alloc1, alloc1] at q3
  have q4 := lit3_C _ _ _ _ _ _ _ _ _ _ q1 q2 q3
  rw [alloc1, alloc1, alloc1] at q4
  have hb4 : Below W3.heap.size W3 ((((W3.alloc (litO [255] 1)).alloc (litO [239, 191, 189] 3)).alloc (litO [97] 1)).alloc (.cells #[.slice (some ⟨W3.heap.size, 0, none⟩) 1 1, .slice (some ⟨W3.heap.size + 1, 0, none⟩) 3 3, .slice (some ⟨W3.heap.size + 1 + 1, 0, none⟩) 1 1] 22)) :=
    below_alloc (below_alloc (below_alloc (below_alloc (Below.refl _ _) _) _) _) _
  rw [show (((W3.alloc (Obj.cells #[Value.int IntKind.u8 255] 5 (1, 2))).alloc (Obj.cells #[Value.int IntKind.u8 239, Value.int IntKind.u8 191, Value.int IntKind.u8 189] 5 (3, 4))).alloc (Obj.cells #[Value.int IntKind.u8 97] 5 (1, 2))) = (((W3.alloc (litO [255] 1)).alloc (litO [239, 191, 189] 3)).alloc (litO [97] 1)) from rfl]
  generalize (((W3.alloc (litO [255] 1)).alloc (litO [239, 191, 189] 3)).alloc (litO [97] 1)).alloc (.cells #[.slice (some ⟨W3.heap.size, 0, none⟩) 1 1, .slice (some ⟨W3.heap.size + 1, 0, none⟩) 3 3, .slice (some ⟨W3.heap.size + 1 + 1, 0, none⟩) 1 1] 22) = W4 at q4 hb4 ⊢
  clear q1 q2 q3
  refine (order_Sort.calls (some ⟨W3.heap.size + 1 + 1 + 1, 0, none⟩) 3 [[255], [239, 191, 189], [97]] 2 [[97], [255], [239, 191, 189]] 0 W4 q4 (Nat.le_refl _) wk_so).mono ?_
  rintro e W5 ⟨v0, rfl, hS, h2⟩
  have h3 := below_then hb4 hb4.size h2
  have HA := Aside0.mk (Kd.C_below HA.out h3)
  have HB := Aside0.mk (Kd.C_below HB.out h3)
  have HX := Aside0.mk (below_then HX.out HX.out.size h3)
  obtain ⟨g, c, rfl, -, -, -⟩ := Kd.S_form hS (by decide)
  obtain ⟨A, c', e', hle, hC⟩ := Kd.S_reads hS
  injection e' with e1' e2' e3'
  subst e1' e3'
  obtain ⟨ad, A0, c0, eA, x0, g0, y0⟩ := at_LL hC 0 (by decide) (by decide)
  obtain ⟨ad', A1, c1, eA', x1, g1, y1⟩ := at_LL hC 1 (by decide) (by decide)
  obtain rfl := Option.some.inj eA
  obtain rfl := Option.some.inj eA'
  replace x0 : W5.cell? ⟨g, 0, none⟩ = some (.slice A0 1 c0) := x0
  replace x1 : W5.cell? ⟨g, 1, none⟩ = some (.slice A1 1 c1) := x1
  have s0 : ∀ c, (convert 22 9 (.slice A0 1 c)).run Tryd.prog W5 = .ok (.string ⟨#[97]⟩) W5 := fun c => Kd.C_string (c := c) Tryd.underlying22 Tryd.underlying5 Tryd.underlying9 y0
  have s1 : ∀ c, (convert 22 9 (.slice A1 1 c)).run Tryd.prog W5 = .ok (.string ⟨#[255]⟩) W5 := fun c => Kd.C_string (c := c) Tryd.underlying22 Tryd.underlying5 Tryd.underlying9 y1
  clear q4 hb4 h2 h3 hS hC y0 y1 hle g0 g1 e2'
  go_wp2_with fail
  refine (order_Agree.calls (some pA) 3 [239, 189, 129] (some pB) 4 [240, 144, 128, 128] false W5 HA.out (Nat.le_refl _) HB.out (Nat.le_refl _) wk_a1).mono ?_
  rintro e W6 ⟨rfl, h2⟩
  replace HX := Aside0.mk (below_then HX.out HX.out.size h2)
  clear h2 x0 x1 s0 s1 HA HB
  have k1 := kc_at W6 #[.int .u8 97] 1 W6.heap.size rfl
  have k2 := kc_at (W6.alloc (.cells #[.int .u8 97] 5 (1, 2))) #[.int .u8 97, .int .u8 98] 2 (W6.heap.size + 1) (alloc1 _ _)
  go_wp2_with fail
  clear k1 k2
  have hA := Kd.C_below (lit_C W6 [97] 1 1 rfl (by decide)) (below_alloc (Below.refl _ _) (litO [97, 98] 2))
  have hB := lit_C (W6.alloc (litO [97] 1)) [97, 98] 2 2 rfl (by decide)
  rw [alloc1] at hB
  have hb : Below w.heap.size w ((W6.alloc (litO [97] 1)).alloc (litO [97, 98] 2)) := below_alloc (below_alloc HX.out _) _
  rw [show (W6.alloc (Obj.cells #[Value.int IntKind.u8 97] 5 (1, 2))).alloc (Obj.cells #[Value.int IntKind.u8 97, Value.int IntKind.u8 98] 5 (2, 3)) = (W6.alloc (litO [97] 1)).alloc (litO [97, 98] 2) from rfl]
  generalize (W6.alloc (litO [97] 1)).alloc (litO [97, 98] 2) = W7 at hA hB hb ⊢
  generalize (⟨W6.heap.size, 0, none⟩ : Addr) = pW7 at hA ⊢
  generalize (⟨W6.heap.size + 1, 0, none⟩ : Addr) = qW7 at hB ⊢
  refine (order_Agree.calls (some pW7) 1 [97] (some qW7) 2 [97, 98] true W7 hA (Nat.le_refl _) hB (Nat.le_refl _) wk_a2).mono ?_
  rintro e W8 ⟨rfl, h2⟩
  replace HX := Aside0.mk (below_then hb hb.size h2)
  clear h2 hA hB hb
  have k1 := kc_at W8 #[.int .u8 97, .int .u8 98, .int .u8 99] 3 W8.heap.size rfl
  have k2 := kc_at (W8.alloc (.cells #[.int .u8 97, .int .u8 98, .int .u8 99] 5 (3, 4))) #[.int .u8 97, .int .u8 98, .int .u8 100] 3 (W8.heap.size + 1) (alloc1 _ _)
  go_wp2_with fail
  clear k1 k2
  have hA := Kd.C_below (lit_C W8 [97, 98, 99] 3 3 rfl (by decide)) (below_alloc (Below.refl _ _) (litO [97, 98, 100] 3))
  have hB := lit_C (W8.alloc (litO [97, 98, 99] 3)) [97, 98, 100] 3 3 rfl (by decide)
  rw [alloc1] at hB
  have hb : Below w.heap.size w ((W8.alloc (litO [97, 98, 99] 3)).alloc (litO [97, 98, 100] 3)) := below_alloc (below_alloc HX.out _) _
  rw [show (W8.alloc (Obj.cells #[Value.int IntKind.u8 97, Value.int IntKind.u8 98, Value.int IntKind.u8 99] 5 (3, 4))).alloc (Obj.cells #[Value.int IntKind.u8 97, Value.int IntKind.u8 98, Value.int IntKind.u8 100] 5 (3, 4)) = (W8.alloc (litO [97, 98, 99] 3)).alloc (litO [97, 98, 100] 3) from rfl]
  generalize (W8.alloc (litO [97, 98, 99] 3)).alloc (litO [97, 98, 100] 3) = W9 at hA hB hb ⊢
  generalize (⟨W8.heap.size, 0, none⟩ : Addr) = pW9 at hA ⊢
  generalize (⟨W8.heap.size + 1, 0, none⟩ : Addr) = qW9 at hB ⊢
  refine (order_Common.calls (some pW9) 3 [97, 98, 99] (some qW9) 3 [97, 98, 100] 2 W9 hA (Nat.le_refl _) hB (Nat.le_refl _) wk_co (HL.out.below hb)).mono ?_
  rintro e W10 ⟨rfl, h2⟩
  replace HX := Aside0.mk (below_then hb hb.size h2)
  clear h2 hA hB hb
  have k1 := kc_at W10 #[.int .u8 65, .int .u8 98, .int .u8 90, .int .u8 91] 4 W10.heap.size rfl
  go_wp2_with fail
  clear k1
  have hA := lit_C W10 [65, 98, 90, 91] 4 4 rfl (by decide)
  have hb : Below w.heap.size w (W10.alloc (litO [65, 98, 90, 91] 4)) := below_alloc HX.out _
  rw [show W10.alloc (Obj.cells #[Value.int IntKind.u8 65, Value.int IntKind.u8 98, Value.int IntKind.u8 90, Value.int IntKind.u8 91] 5 (4, 5)) = W10.alloc (litO [65, 98, 90, 91] 4) from rfl]
  generalize W10.alloc (litO [65, 98, 90, 91] 4) = W11 at hA hb ⊢
  generalize (⟨W10.heap.size, 0, none⟩ : Addr) = pZ at hA ⊢
  refine (order_Fold.calls 10 (some pZ) 4 [65, 98, 90, 91] [97, 98, 122, 91] W11 hA (Nat.le_refl _) wk_fo).mono ?_
  rintro e W12 ⟨v0, rfl, hR, h2⟩
  replace HX := Aside0.mk (below_then hb hb.size h2)
  obtain ⟨A, c, rfl, hle, hC⟩ := Kd.R_reads hR
  have s0 : ∀ c, (convert 22 9 (.slice A 4 c)).run Tryd.prog W12 = .ok (.string ⟨#[97, 98, 122, 91]⟩) W12 := fun c => Kd.C_string (c := c) Tryd.underlying22 Tryd.underlying5 Tryd.underlying9 hC
  clear h2 hA hb hR hC hle
  go_wp2_with fail
  go_ret
  exact ⟨rfl, HX.out⟩

def galleylaw31_wakes.f : Option Bool := some true
theorem galleylaw31_wakes.calls (r : Bool) (w : World) (h : galleylaw31_wakes.f = some r) (hLaid : Laid w := by repeat (first | exact hLaid | exact hLaid.below (by assumption) | exact hLaid.below (Aside0.out (by assumption)) | refine Laid.drewN ?_ _ | refine Laid.drew ?_ | refine Laid.alloc ?_ _ | refine Laid.set hLaid (Aside0.out (by assumption)) ?_)) :
    Calls Tryd.prog 11 #[] w fun e w' => e = .returned (.bool r) ∧ Below w.heap.size w w' := by
  obtain rfl := Option.some.inj h
  exact wakes_walk w hLaid
end Go.Proofs.YtdomggegacgmnaaDoor.PA
