/- Plain law: the document's Sort leaves the order of core's mergeSort. Condition: at most 2^20 texts, of at most 2^20 bytes each, all from 0 to 255. -/
import Derived.Test.YtdomggegacgmnaaDoorPAx8
import Derived.Test.YtdomggegacgmnaaDoorRefThings
import Derived.Test.YtdomggegacgmnaaDoorSortsKit
namespace Go.Proofs.YtdomggegacgmnaaDoor.srt
open Go.RowKit PA ref Go.Sort Go.Proofs.YtdomggegacgmnaaDoorW.PrintWords Go.Proofs.YtdomggegacgmnaaDoorW.PrintLast Go.Proofs.YtdomggegacgmnaaDoorW.PrintMore

/-! ### the reference's loops -/
def toI (os : List Nat) : List Int := os.map fun o : Nat => (o : Int)
theorem toI_len (os : List Nat) : (toI os).length = os.length := by simp [toI]
theorem rd_toI (os : List Nat) (p : Nat) (h : p < os.length) : rd (toI os) (p : Int) = (os[p] : Int) := by simp [rd, toI, List.getD_eq_getElem?_getD, h]
theorem toI_app (a b : List Nat) : toI (a ++ b) = toI a ++ toI b := by simp [toI]
section
variable (l : List (List Int)) (r : Int) (hr : r = 1 ∨ r = 2 ∨ r = 3) (hb : ∀ x ∈ l, ∀ y ∈ x, 0 ≤ y ∧ y ≤ 255) (hlen : ∀ x ∈ l, x.length ≤ 1048576) (hn : l.length ≤ 1048576)
theorem l2_eq (i : Nat) (os : List Nat) (ho : os.length ≤ 1048576) : ∀ (n p k : Nat) (now : List Nat), n = os.length - p → p ≤ os.length → now.length ≤ p + 1 →
    galleyref31_Sort.l2 (k + n + 1) l r (toI os) i (toI now) p = galleyref31_Sort.l0 k l r (toI (now ++ os.drop p)) (wrap64 ((i : Int) + 1))
  | 0, p, k, now, h1, h2, h3 => by
    rw [galleyref31_Sort.l2, if_neg (by rw [toI_len]; omega), List.drop_eq_nil_of_le (by omega), List.append_nil]
  | n + 1, p, k, now, h1, h2, h3 => by
    have ew : wrap64 ((p : Int) + 1) = ((p + 1 : Nat) : Int) := by unfold wrap64; omega
    have hp : p < os.length := by omega
    rw [show k + (n + 1) + 1 = (k + n + 1) + 1 by omega, galleyref31_Sort.l2, if_pos (by rw [toI_len]; omega), if_pos (by omega), if_pos (by rw [toI_len]; omega), rd_toI os p hp, ew]
    have : toI now ++ [((os[p] : Nat) : Int)] = toI (now ++ [os[p]]) := by simp [toI]
    rw [this, l2_eq i os ho n (p + 1) k (now ++ [os[p]]) (by omega) (by omega) (by simp; omega), List.drop_eq_getElem_cons hp, List.append_assoc]
    rfl
include hr hb hlen in
theorem l1_eq (i : Nat) (hi : i < l.length) (os : List Nat) (ho : ∀ o ∈ os, o < l.length) (hol : os.length ≤ 1048576) : ∀ (n p k : Nat) (now : List Nat), n = os.length - p → p ≤ os.length → now.length ≤ p → 8388608 ≤ k →
    galleyref31_Sort.l1 (k + n + 3) l r (toI os) i (toI now) p = galleyref31_Sort.l0 k l r (toI (now ++ insN (ltN l r) i (os.drop p))) (wrap64 ((i : Int) + 1))
  | 0, p, k, now, h1, h2, h3, hk => by
    rw [galleyref31_Sort.l1, if_neg (by rw [toI_len]; omega), galleyref31_Sort.j2, if_pos (by rw [toI_len]; omega)]
    have : toI now ++ [(i : Int)] = toI (now ++ [i]) := by simp [toI]
    rw [this]
    have := l2_eq l r i os hol 0 p k (now ++ [i]) h1 h2 (by simp; omega)
    rw [Nat.add_zero] at this
    rw [Nat.add_zero, this, List.drop_eq_nil_of_le (by omega : os.length ≤ p), insN, List.append_nil]
  | n + 1, p, k, now, h1, h2, h3, hk => by
    have ew : wrap64 ((p : Int) + 1) = ((p + 1 : Nat) : Int) := by unfold wrap64; omega
    have hp : p < os.length := by omega
    have hop := ho os[p] (List.getElem_mem hp)
    rw [show k + (n + 1) + 3 = (k + n + 3) + 1 by omega, galleyref31_Sort.l1, if_pos (by rw [toI_len]; omega), if_pos (by omega), if_pos (by omega), if_pos (by omega), rd_toI os p hp, if_pos (by omega), if_pos (by omega), ew]
    have rw1 : rd_L4 l (i : Int) = l.getD i [] := rfl
    have rw2 : rd_L4 l ((os[p] : Nat) : Int) = l.getD os[p] [] := rfl
    rw [rw1, rw2]
    have mi : l.getD i [] ∈ l := by rw [List.getD_eq_getElem?_getD, List.getElem?_eq_getElem hi]; exact List.getElem_mem hi
    have mo : l.getD os[p] [] ∈ l := by rw [List.getD_eq_getElem?_getD, List.getElem?_eq_getElem hop]; exact List.getElem_mem hop
    have hc : galleyref31_Compare.f (k + n + 3) (l.getD i []) (l.getD os[p] []) r = some (cmpL (thingsV (l.getD i []) r) (thingsV (l.getD os[p] []) r), 0) := by
      rw [compare_f _ _ (hb _ mi) (hb _ mo) (hlen _ mi) (hlen _ mo) r _ (by omega)]
      unfold order_Compare.f
      have h1 := hlen _ mi
      have h2 := hlen _ mo
      have hsm : (small (l.getD i []) && small (l.getD os[p] [])) = true := by simp only [small, Bool.and_eq_true, decide_eq_true_eq]; omega
      rw [if_pos hr, if_pos hsm]
    rw [hc, Option.bind_some, List.drop_eq_getElem_cons hp, insN]
    by_cases c : cmpL (thingsV (l.getD i []) r) (thingsV (l.getD os[p] []) r) < 0
    · have c2 : ltN l r i os[p] = true := decide_eq_true c
      rw [if_pos c, if_pos c2, galleyref31_Sort.j2, if_pos (by rw [toI_len]; omega)]
      have : toI now ++ [(i : Int)] = toI (now ++ [i]) := by simp [toI]
      rw [this, show k + n + 2 = k + (n + 1) + 1 by omega, l2_eq l r i os hol (n + 1) p k (now ++ [i]) h1 h2 (by simp; omega), List.drop_eq_getElem_cons hp, List.append_assoc]
      rfl
    · have c2 : ¬ ltN l r i os[p] = true := by unfold ltN ltV; simpa using c
      rw [if_neg c, if_neg c2, if_pos (by rw [toI_len]; omega)]
      have : toI now ++ [((os[p] : Nat) : Int)] = toI (now ++ [os[p]]) := by simp [toI]
      rw [this, l1_eq i hi os ho hol n (p + 1) k (now ++ [os[p]]) (by omega) (by omega) (by simp; omega) hk, List.append_assoc]
      rfl
include hr hb hlen hn in
theorem l0_eq : ∀ (n i k : Nat), n = l.length - i → i ≤ l.length → 8388608 + n * (l.length + 4) + 1 ≤ k →
    galleyref31_Sort.l0 k l r (toI (refN (ltN l r) i)) i = some (toI (refN (ltN l r) l.length))
  | 0, i, k, h1, h2, hk => by
    obtain ⟨k, rfl⟩ : ∃ k', k = k' + 1 := ⟨k - 1, by omega⟩
    rw [galleyref31_Sort.l0, if_neg (by omega), show i = l.length by omega]
  | n + 1, i, k, h1, h2, hk => by
    have ew : wrap64 ((i : Int) + 1) = ((i + 1 : Nat) : Int) := by unfold wrap64; omega
    rw [Nat.succ_mul] at hk
    obtain ⟨k, rfl⟩ : ∃ k', k = (k' + i + 3) + 1 := ⟨k - i - 4, by omega⟩
    rw [galleyref31_Sort.l0, if_pos (by omega)]
    have hl := refN_len (ltN l r) i
    have := l1_eq l r hr hb hlen i (by omega) (refN (ltN l r) i) (fun o h => by have := refN_lt _ _ o h; omega) (by omega) i 0 k [] (by omega) (by omega) (by simp) (by omega)
    rw [List.drop_zero, List.nil_append, ew] at this
    rw [show ([] : List Int) = toI [] from rfl, show (0 : Int) = ((0 : Nat) : Int) from rfl, this]
    exact l0_eq n (i + 1) k (by omega) (by omega) (by omega)
include hr hb hlen hn in
theorem sort_f (k : Nat) (hk : 8388608 + l.length * (l.length + 4) + 1 ≤ k) : galleyref31_Sort.f k l r = some (toI (refN (ltN l r) l.length)) := by
  unfold galleyref31_Sort.f
  exact l0_eq l r hr hb hlen hn l.length 0 k (by omega) (by omega) hk
end
end Go.Proofs.YtdomggegacgmnaaDoor.srt
