/- RangesMany walked: 1024 ranges have room. -/
import Derived.Test.YtjladdjpnicldaaGList
import Derived.Test.YtjladdjpnicldaaAwake
import Derived.Test.YtjladdjpnicldaaGSet
namespace Go.Proofs.Ytjladdjpnicldaa.PA
open Go.RowKit Go.Maps Go.Proofs.YtjladdjpnicldaaW.PrintWords Go.Proofs.YtjladdjpnicldaaW.PrintLast Go.Proofs.YtjladdjpnicldaaW.PrintMore

def nameI (i : Nat) : ByteArray := ⟨#[UInt8.ofNat i, UInt8.ofNat (i / 256)]⟩
def rowI (i : Nat) : S24 := ⟨nameI i, 2, 5, 1, 1⟩
def rowsI (k : Nat) : List S24 := (List.range k).reverse.map rowI
def lastI : S24 := ⟨nameI 1023, 3, 5, 1, 1⟩
theorem nameI_inj {i j : Nat} (hi : i < 1024) (hj : j < 1024) (h : nameI i = nameI j) : i = j := by
  unfold nameI at h
  injection h with h
  have h2 := congrArg Array.toList h
  simp only [List.cons.injEq, and_true] at h2
  have a := congrArg UInt8.toNat h2.1
  have b := congrArg UInt8.toNat h2.2
  rw [UInt8.toNat_ofNat', UInt8.toNat_ofNat'] at a b
  omega
theorem rowsI_len (k : Nat) : (rowsI k).length = k := by simp [rowsI]
theorem rowsI_mem {k : Nat} {y : S24} (h : y ∈ rowsI k) : ∃ j, j < k ∧ y = rowI j := by
  unfold rowsI at h
  obtain ⟨j, hj, rfl⟩ := List.mem_map.1 h
  exact ⟨j, by simpa using hj, rfl⟩
theorem rowsI_succ (k : Nat) : rowsI (k + 1) = rowI k :: rowsI k := by
  unfold rowsI
  rw [List.range_succ, List.reverse_append, List.map_append]; rfl
theorem set_next (k : Nat) (hk : k < 1024) : setRows (rowsI k) (rowI k) = rowsI (k + 1) := by
  rw [rowsI_succ, setRows, List.filter_eq_self.2]
  intro y hy
  obtain ⟨j, hj, rfl⟩ := rowsI_mem hy
  have : ¬ (rowI j).f0 = (rowI k).f0 := fun e => by have := nameI_inj (by omega) hk e; omega
  simp [this]
theorem get_next (k : Nat) (hk : k < 1024) : (getV (rowsI k) (nameI k)).isSome = false := by
  cases h : getV (rowsI k) (nameI k) with
  | none => rfl
  | some y =>
    obtain ⟨hm, hn⟩ := getV_some h
    obtain ⟨j, hj, rfl⟩ := rowsI_mem hm
    have := nameI_inj (by omega) hk hn; omega
theorem set_last : setRows (rowsI 1024) lastI = lastI :: rowsI 1023 := by
  rw [rowsI_succ, setRows, List.filter_cons_of_neg (by simp [rowI, lastI]), List.filter_eq_self.2]
  intro y hy
  obtain ⟨j, hj, rfl⟩ := rowsI_mem hy
  have : ¬ (rowI j).f0 = lastI.f0 := fun e => by have := nameI_inj (by omega) (by omega) (show nameI j = nameI 1023 from e); omega
  simp [this]
theorem get_last : (getV (rowsI 1024) (nameI 1023)).isSome = true := by
  cases h : getV (rowsI 1024) (nameI 1023) with
  | some y => rfl
  | none => exact absurd rfl (getV_none h (rowI 1023) (by rw [rowsI_succ]; exact List.mem_cons_self))
theorem list_sorted (rows : List S24) : (listV rows).Pairwise (fun x y => (!ltR y x) = true) := by
  unfold listV
  refine List.pairwise_mergeSort (le := fun x y => !ltR y x) (fun a b c h1 h2 => ?_) (fun a b => ?_) _
  · simp only [Bool.not_eq_true'] at *
    exact swoR.ntrans _ _ _ h2 h1
  · cases h1 : ltR b a with
    | false => rfl
    | true =>
      cases h2 : ltR a b with
      | false => rfl
      | true => have := swoR.trans _ _ _ h1 h2; rw [swoR.irrefl] at this; cases this
theorem last_lo : ((listV (lastI :: rowsI 1023)).getD 1023 z24).f1 = 3 := by
  have hl : (listV (lastI :: rowsI 1023)).length = 1024 := by rw [listV_length, List.length_cons, rowsI_len]
  have hp := listV_perm (lastI :: rowsI 1023)
  have hs := list_sorted (lastI :: rowsI 1023)
  generalize listV (lastI :: rowsI 1023) = l at hl hp hs
  rw [List.getD_eq_getElem?_getD, List.getElem?_eq_getElem (by omega : 1023 < l.length), Option.getD_some]
  have hm := hp.mem_iff.1 (List.getElem_mem (by omega : 1023 < l.length))
  obtain ⟨j, hj, hlj⟩ := List.getElem_of_mem (hp.mem_iff.2 (List.mem_cons_self))
  rcases List.mem_cons.1 hm with h | h
  · rw [h]; rfl
  · obtain ⟨q, -, hq⟩ := rowsI_mem h
    by_cases hjq : j = 1023
    · subst hjq; rw [hlj]; rfl
    · have := (List.pairwise_iff_getElem.1 hs) j 1023 hj (by omega) (by omega)
      rw [hlj, hq, Bool.not_eq_true', ltR_no] at this
      simp only [rowI, lastI] at this
      omega
theorem get_more : (getV (rowsI 1024) ⟨#[111, 110, 101, 32, 109, 111, 114, 101]⟩).isSome = false := by
  cases h : getV (rowsI 1024) ⟨#[111, 110, 101, 32, 109, 111, 114, 101]⟩ with
  | none => rfl
  | some y =>
    obtain ⟨hm, hn⟩ := getV_some h
    have h8 : y.f0.size = 8 := by rw [hn]; rfl
    obtain ⟨j, -, rfl⟩ := rowsI_mem hm
    cases h8

set_option maxHeartbeats 4000000 in
set_option maxRecDepth 100000 in
theorem many_walk (w : World) : Calls Try.prog 6 #[] w fun e w' => e = .returned (.bool true) ∧ Below w.heap.size w w' := by
  have hA := Aside0.mk (awake_walk w)
  go_enter Try.func6, Try.ntmps6
  go_wp2_with fail
  refine hA.out.mono ?_
  rintro e W1 ⟨rfl, B1⟩
  have HB1 := Aside0.mk B1
  clear B1 hA
  have hN := Aside0.mk (new_ok 9 W1 (by omega) (by omega))
  go_wp2_with fail
  refine hN.out.mono ?_
  rintro e W2 ⟨b2, rfl, o2, B2⟩
  have HO2 := Aside0.mk o2
  have HB2 := Aside0.mk (below_then HB1.out HB1.out.size B2)
  have GE := Aside0.mk HB2.out.size
  clear hN o2 B2 HB1
  go_wp2_with fail
  go_loopg [1, 2, 4, 38] 1024 (fun kq v1 v2 v4 v38 wr => ∃ (k b : Nat), v1 = .pointer (some ⟨b, 0, none⟩) ∧ v2 = .int .i64 0 ∧ v4 = .int .i64 k ∧ k ≤ 1024 ∧ 1024 - k ≤ kq ∧ Aside0 (RObj wr b 9 (rowsI k)) ∧ Aside0 (∃ s : ByteArray, (1024 ≤ k → s = nameI 1023) ∧ wr.heap[W2.heap.size]? = some (.cells #[.string s, .int .i64 2, .int .i64 5, .int .i64 1, .int .i64 1] 24 (0, 0))) ∧ Aside0 (Below w.heap.size w wr))
  case atStart => exact ⟨0, b2, rfl, rfl, rfl, by omega, by omega, ⟨HO2.out.below (below_alloc (Below.refl _ _) _)⟩, ⟨_, fun h => by omega, (MapKept.heap_alloc _ _).1⟩, ⟨below_alloc HB2.out _⟩⟩
  case round =>
    obtain ⟨k, b, rfl, rfl, rfl, hk, hkq, HO, HX, HB⟩ := hrel
    by_cases hkn : k < 1024
    · have e1 : decide ((k : Int) < 1024) = true := decide_eq_true (by omega)
      have hcv : (convert 69 9 (.slice (some ⟨wr.heap.size, 0, none⟩) 2 2)).run Try.prog (wr.alloc (.cells #[.int .u8 ((k : Int) % 256), .int .u8 ((k : Int) / 256)] 5)) = .ok (.string (nameI k)) (wr.alloc (.cells #[.int .u8 ((k : Int) % 256), .int .u8 ((k : Int) / 256)] 5)) := by
        have hb := (MapKept.heap_alloc wr (.cells #[.int .u8 ((k : Int) % 256), .int .u8 ((k : Int) / 256)] 5)).1
        have h := run_convert_bytes_back (P := Try.prog) (wr.alloc (.cells #[.int .u8 ((k : Int) % 256), .int .u8 ((k : Int) / 256)] 5)) 69 9 5 ⟨wr.heap.size, 0, none⟩ 2 [UInt8.ofNat k, UInt8.ofNat (k / 256)] Try.underlying69 Try.underlying5 Try.underlying9 (fun j hj => by
          rw [add_plain]
          refine (blk_cell hb _).trans ?_
          rcases (by simp at hj; omega : j = 0 ∨ j = 1) with rfl | rfl
          · show some (Value.int .u8 ((k : Int) % 256)) = some (Value.int .u8 ((UInt8.ofNat k).toNat : Int))
            rw [UInt8.toNat_ofNat']; congr 2
          · show some (Value.int .u8 ((k : Int) / 256)) = some (Value.int .u8 ((UInt8.ofNat (k / 256)).toNat : Int))
            rw [UInt8.toNat_ofNat']
            have h1 : k / 256 % 2 ^ 8 = k / 256 := by omega
            rw [h1]; congr 2)
        exact h
      obtain ⟨sx, -, hbx⟩ := HX.out
      have hbx2 := blk_alloc hbx (.cells #[.int .u8 ((k : Int) % 256), .int .u8 ((k : Int) / 256)] 5)
      have hcx := (blk_cell hbx2 0).trans (show _ = some (Value.string sx) from rfl)
      have hfx := blk_frozen hbx2 0
      have HO2 := Aside0.mk (HO.out.below (below_alloc (Below.refl _ _) (.cells #[.int .u8 ((k : Int) % 256), .int .u8 ((k : Int) / 256)] 5)))
      have HO3 := Aside0.mk (HO2.out.set hbx2 (by decide) 0 (.string (nameI k)))
      have HX3 := Aside0.mk (blk_set hbx2 0 (.string (nameI k)))
      have g1 := (blk_cell hbx2 1).trans (show _ = some (Value.int .i64 2) from rfl)
      have g2 := (blk_cell hbx2 2).trans (show _ = some (Value.int .i64 5) from rfl)
      have g3 := (blk_cell hbx2 3).trans (show _ = some (Value.int .i64 1) from rfl)
      have g4 := (blk_cell hbx2 4).trans (show _ = some (Value.int .i64 1) from rfl)
      clear hbx hbx2 HO2
      have hS := set_ok (rowI k) _ b 9 (rowsI k) HO3.out (by show ¬ ((2 : Nat) = 0 ∨ 64 < 2); decide) (by simp [rowI, gravV]) (by rw [rowsI_len]; omega) (by rw [rowsI_len]; omega)
      rw [set_next k hkn] at hS
      have HS := Aside0.mk hS
      clear hS
      go_wp2_with fail
      refine HS.out.mono ?_
      rintro e W4 ⟨b4, rfl, o4, B4⟩
      have HO4 := Aside0.mk o4
      have HX4 := Aside0.mk ((B4.block _ (blk_lt HX3.out)).trans HX3.out)
      have HB3 := below_set (below_alloc HB.out (.cells #[.int .u8 ((k : Int) % 256), .int .u8 ((k : Int) / 256)] 5)) (g := W2.heap.size) (j := 0) (v := .string (nameI k)) GE.out
      have HB4 := Aside0.mk (below_then HB3 HB3.size B4)
      clear HB3
      obtain ⟨k2, hk2⟩ : ∃ k2, k2 = k + 1 := ⟨_, rfl⟩
      have e2 : IntKind.i64.wrap ((k : Int) + 1) = (k2 : Int) := by rw [IntKind.wrap_i64]; omega
      have e3 : (k : Int) + 1 = (k2 : Int) := by omega
      have HK2 := Aside0.mk hk2
      clear o4 B4 HS hk2 hcv hcx hfx g1 g2 g3 g4
      go_wp2_with fail
      go_roundg (1024 - (k + 1))
      case measure => omega
      case rel => exact ⟨k + 1, b4, rfl, rfl, by rw [← HK2.out], by omega, by omega, HO4, ⟨nameI k, fun h => by rw [show k = 1023 by omega], HX4.out⟩, HB4⟩
    · have e1 : decide ((k : Int) < 1024) = false := decide_eq_false (by omega)
      obtain rfl : k = 1024 := by omega
      obtain ⟨sx, hsx, hbx⟩ := HX.out
      rw [hsx (Nat.le_refl _)] at hbx
      have HBX := Aside0.mk hbx
      have hL := listR_ok wr b 9 (rowsI 1024) HO.out (fun x hx => by obtain ⟨j, -, rfl⟩ := rowsI_mem hx; show (2 : Nat) ≤ 64; decide) (by rw [rowsI_len]; decide)
      have HLL := Aside0.mk hL
      clear hL hsx hbx HX
      go_wp2_with fail
      refine HLL.out.mono ?_
      rintro e W4 ⟨v4, rfl, hR4, B4⟩
      obtain ⟨A4, c4, rfl⟩ := Kd.R_slice hR4
      rw [listV_length, rowsI_len]
      have HO4 := Aside0.mk (HO.out.below B4)
      have HB4 := Aside0.mk (below_then HB.out HB.out.size B4)
      have hbx := (B4.block _ (blk_lt HBX.out)).trans HBX.out
      have g0 := (blk_cell hbx 0).trans (show _ = some (Value.string (nameI 1023)) from rfl)
      have g1 := (blk_cell hbx 1).trans (show _ = some (Value.int .i64 2) from rfl)
      have g2 := (blk_cell hbx 2).trans (show _ = some (Value.int .i64 5) from rfl)
      have g3 := (blk_cell hbx 3).trans (show _ = some (Value.int .i64 1) from rfl)
      have g4 := (blk_cell hbx 4).trans (show _ = some (Value.int .i64 1) from rfl)
      have f1 := blk_frozen hbx 1
      have HO5 := Aside0.mk (HO4.out.set hbx (by decide) 1 (.int .i64 3))
      have HX5 := Aside0.mk (blk_set hbx 1 (.int .i64 3))
      have hS := set_ok lastI _ b 9 (rowsI 1024) HO5.out (by show ¬ ((2 : Nat) = 0 ∨ 64 < 2); decide) (by simp [lastI, gravV]) (by show ¬ ((getV (rowsI 1024) (nameI 1023)).isSome = false ∧ _); rw [get_last]; simp) (by rw [rowsI_len]; decide)
      rw [set_last] at hS
      have HS := Aside0.mk hS
      clear hS hbx hR4 B4 HLL HO4
      go_wp2_with fail
      refine HS.out.mono ?_
      rintro e W6 ⟨b6, rfl, o6, B6⟩
      have HO6 := Aside0.mk o6
      have HB5 := below_set HB4.out (g := W2.heap.size) (j := 1) (v := .int .i64 3) GE.out
      have HB6 := Aside0.mk (below_then HB5 HB5.size B6)
      clear HB5
      have HO7 := Aside0.mk (HO5.out.below B6)
      have hbx := (B6.block _ (blk_lt HX5.out)).trans HX5.out
      clear g0 g1 g2 g3 g4 f1 o6 B6 HS HX5 HO5
      have g0 := (blk_cell hbx 0).trans (show _ = some (Value.string (nameI 1023)) from rfl)
      have g1 := (blk_cell hbx 1).trans (show _ = some (Value.int .i64 3) from rfl)
      have g2 := (blk_cell hbx 2).trans (show _ = some (Value.int .i64 5) from rfl)
      have g3 := (blk_cell hbx 3).trans (show _ = some (Value.int .i64 1) from rfl)
      have g4 := (blk_cell hbx 4).trans (show _ = some (Value.int .i64 1) from rfl)
      have f0 := blk_frozen hbx 0
      have HO8 := Aside0.mk (HO7.out.set hbx (by decide) 0 (.string ⟨#[111, 110, 101, 32, 109, 111, 114, 101]⟩))
      have HO9 := Aside0.mk (HO6.out.set hbx (by decide) 0 (.string ⟨#[111, 110, 101, 32, 109, 111, 114, 101]⟩))
      have hM := set_many ⟨⟨#[111, 110, 101, 32, 109, 111, 114, 101]⟩, 3, 5, 1, 1⟩ _ b 9 (rowsI 1024) HO8.out (by show ¬ ((8 : Nat) = 0 ∨ 64 < 8); decide) (by simp [gravV]) ⟨get_more, by rw [rowsI_len]; exact Nat.le_refl _⟩
      have HM := Aside0.mk hM
      clear hM hbx HO7 HO6 HO8
      go_wp2_with fail
      refine HM.out.mono ?_
      rintro e W7 ⟨rfl, B7⟩
      have HO7 := Aside0.mk (HO9.out.below B7)
      have HB7' := below_set HB6.out (g := W2.heap.size) (j := 0) (v := .string ⟨#[111, 110, 101, 32, 109, 111, 114, 101]⟩) GE.out
      have HB7 := Aside0.mk (below_then HB7' HB7'.size B7)
      clear HB7'
      clear B7 HM g0 g1 g2 g3 g4 f0 HO9
      have hmem : ∀ x ∈ lastI :: rowsI 1023, x.f0.size ≤ 64 := fun x hx => by
        rcases List.mem_cons.1 hx with rfl | hx
        · show (2 : Nat) ≤ 64; decide
        · obtain ⟨j, -, rfl⟩ := rowsI_mem hx; show (2 : Nat) ≤ 64; decide
      have hlen : (lastI :: rowsI 1023).length = 1024 := by rw [List.length_cons, rowsI_len]
      have HMEM := Aside0.mk hmem
      have HLEN := Aside0.mk hlen
      clear hmem hlen
      go_wp2_with fail
      refine (listR_ok W7 b6 9 _ HO7.out HMEM.out (by rw [HLEN.out]; decide)).mono ?_
      rintro e W8 ⟨v8, rfl, hR8, B8⟩
      obtain ⟨A8, c8, rfl⟩ := Kd.R_slice hR8
      rw [listV_length, HLEN.out]
      have HO8 := Aside0.mk (HO7.out.below B8)
      have HB8 := Aside0.mk (below_then HB7.out HB7.out.size B8)
      clear hR8 B8
      go_wp2_with fail
      refine (listR_ok W8 b6 9 _ HO8.out HMEM.out (by rw [HLEN.out]; decide)).mono ?_
      rintro e W9 ⟨v9, rfl, hR9, B9⟩
      obtain ⟨A9, c9, rfl⟩ := Kd.R_slice hR9
      have hll : (listV (lastI :: rowsI 1023)).length = 1024 := by rw [listV_length, HLEN.out]
      obtain ⟨gn, capn, hform, -⟩ := Kd.R_form hR9 (by rw [hll]; decide)
      injection hform with hA hA2 hA3
      subst hA
      clear hA2 hA3
      obtain ⟨cc, -, hMM, hcell, -⟩ := Kd.R_elem hR9 z24 1023 (by omega) (by rw [hll]; decide)
      have hcc := k24_openM hMM
      have hlo : W9.cell? ⟨gn, 5116, none⟩ = some (.int .i64 3) := by
        have := hcell 1 (.int .i64 ((listV (lastI :: rowsI 1023)).getD 1023 z24).f1) (by rw [hcc]; rfl)
        rw [last_lo] at this
        exact this
      rw [hll]
      have HB9 := Aside0.mk (below_then HB8.out HB8.out.size B9)
      clear hMM hcell hcc hll hR9 B9
      go_wp2_with fail
      go_ret
      exact ⟨rfl, HB9.out⟩
end Go.Proofs.Ytjladdjpnicldaa.PA
