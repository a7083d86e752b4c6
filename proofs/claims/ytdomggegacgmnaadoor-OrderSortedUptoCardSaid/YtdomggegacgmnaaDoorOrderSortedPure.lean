/- Plain law: OrderSorted's function answers true. Condition: the texts' lengths and their number are together at most 2^20, all bytes from 0 to 255. -/
import Derived.Test.YtdomggegacgmnaaDoorPSorted
import Derived.Test.YtdomggegacgmnaaDoorSortsKit
namespace Go.Proofs.YtdomggegacgmnaaDoor.sorted
open Go.RowKit PA srt Go.Sort Go.Proofs.YtdomggegacgmnaaDoorW.PrintWords Go.Proofs.YtdomggegacgmnaaDoorW.PrintLast Go.Proofs.YtdomggegacgmnaaDoorW.PrintMore

section
variable (l : List (List Int)) (r : Int) (hr : r = 1 ∨ r = 2 ∨ r = 3) (hb : ∀ x ∈ l, ∀ y ∈ x, 0 ≤ y ∧ y ≤ 255) (hlen : ∀ x ∈ l, x.length ≤ 1048576) (hn : l.length ≤ 1048576)
/-- the order that is found -/
def pi (l : List (List Int)) (r : Int) : List Nat := refN (ltN l r) l.length
theorem pi_len : (pi l r).length = l.length := refN_len _ _
theorem pi_lt (i : Nat) (h : i < (pi l r).length) : (pi l r)[i] < l.length := refN_lt _ _ _ (List.getElem_mem h)
theorem swoN : SWO (ltN l r) := ⟨fun _ => (swo_ltV r).irrefl _, fun _ _ _ => (swo_ltV r).trans _ _ _, fun _ _ _ => (swo_ltV r).ntrans _ _ _⟩
theorem pi_bef (i j : Nat) (hij : i < j) (h : j < (pi l r).length) : Bef (ltN l r) ((pi l r)[i]'(by omega)) ((pi l r)[j]) :=
  List.pairwise_iff_getElem.1 (refN_sorted (ltN l r) (swoN l r) l.length) i j (by exact Nat.lt_trans hij h) h hij
theorem pi_nodup : (pi l r).Nodup := (refN_perm (ltN l r) l.length).nodup_iff.2 List.nodup_range
theorem pi_all (k : Nat) (h : k < l.length) : ∃ j, ∃ hj : j < (pi l r).length, (pi l r)[j] = k := by
  have := (refN_perm (ltN l r) l.length).mem_iff.2 (List.mem_range.2 h)
  exact List.mem_iff_getElem.1 this
/-- what is sorted -/
def so (l : List (List Int)) (r : Int) : List (List Int) := sortV l r
theorem so_pi : (pi l r).map (fun o => l.getD o []) = so l r := refN_merge (fun x y : List Int => ltV r x y) (swo_ltV r) l []
theorem so_len : (so l r).length = l.length := by rw [← so_pi, List.length_map, pi_len]
theorem so_get (i : Nat) (h : i < (pi l r).length) : rd_L4 (so l r) (i : Int) = l.getD ((pi l r)[i]) [] := by
  rw [← so_pi]
  simp [rd_L4, List.getD_eq_getElem?_getD, h]
theorem getD_mem (i : Nat) (h : i < l.length) : l.getD i [] ∈ l := by rw [List.getD_eq_getElem?_getD, List.getElem?_eq_getElem h]; exact List.getElem_mem h
/-- which are used before the i-th -/
def us (l : List (List Int)) (r : Int) (i : Nat) : List Bool := (List.range l.length).map fun k => decide (k ∈ (pi l r).take i)
theorem us_len (i : Nat) : (us l r i).length = l.length := by simp [us]
theorem us_get (i k : Nat) (h : k < l.length) : rdOf false (us l r i) (k : Int) = decide (k ∈ (pi l r).take i) := by
  simp [rdOf, us, List.getD_eq_getElem?_getD, h]
theorem us_zero : us l r 0 = List.replicate l.length false := by
  apply List.ext_getElem
  · simp [us]
  · intro k h1 h2; simp [us]
theorem us_set (i : Nat) (h : i < (pi l r).length) : (us l r i).set ((pi l r)[i]) true = us l r (i + 1) := by
  apply List.ext_getElem
  · simp [us]
  · intro k h1 h2
    have hk : k < l.length := by simpa [us] using h2
    rw [List.getElem_set]
    simp only [us, List.getElem_map, List.getElem_range]
    rw [List.take_succ_eq_append_getElem h]
    by_cases e : (pi l r)[i] = k
    · rw [if_pos e]; simp [e]
    · rw [if_neg e]
      simp only [List.mem_append, List.mem_singleton]
      by_cases m : k ∈ (pi l r).take i
      · rw [decide_eq_true m, decide_eq_true (Or.inl m)]
      · rw [decide_eq_false m, decide_eq_false (fun g => g.elim m (fun g => e g.symm))]
theorem us_fresh (i : Nat) (h : i < (pi l r).length) : ¬ (pi l r)[i] ∈ (pi l r).take i := fun m => by
  obtain ⟨j, hj, e⟩ := List.mem_iff_getElem.1 m
  simp only [List.length_take] at hj
  rw [List.getElem_take] at e
  have := (List.pairwise_iff_getElem.1 (pi_nodup l r)) j i (by omega) h (by omega)
  exact this e
/-- no fresh text like it stands before it -/
theorem us_first (i : Nat) (h : i < (pi l r).length) (k : Nat) (hk : k < (pi l r)[i]) (he : l.getD k [] = l.getD ((pi l r)[i]) []) : k ∈ (pi l r).take i := by
  have hpl := pi_lt l r i h
  obtain ⟨j, hj, e⟩ := pi_all l r k (by omega)
  by_cases c : j < i
  · rw [← e]
    refine List.mem_iff_getElem.2 ⟨j, by simp; omega, by rw [List.getElem_take]⟩
  · by_cases c2 : j = i
    · subst c2; omega
    · have hb := (pi_bef l r i j (by omega) hj).2
      rw [e] at hb
      have : ltN l r ((pi l r)[i]) k = false := by unfold ltN; rw [he]; exact (swo_ltV r).irrefl _
      have := hb this
      omega
include hb in
/-- one search: it ends at the i-th's own place -/
theorem l1_eq (hn : l.length ≤ 1048576) (i : Nat) (h : i < (pi l r).length) (c : Int) (last : Int) (hc : c = 0 → last ≤ (pi l r)[i]) : ∀ (n k f : Nat), n = (pi l r)[i] - k → k ≤ (pi l r)[i] →
    galleylaw31_OrderSorted.l1 (f + n + 1) l r (so l r) (us l r i) last i c (-1) k = galleylaw31_OrderSorted.l0 f l r (so l r) (us l r (i + 1)) ((pi l r)[i]) ((i + 1 : Nat) : Int)
  | 0, k, f, h1, h2 => by
    have hk : k = (pi l r)[i] := by omega
    have hpl := pi_lt l r i h
    have hil : i < l.length := by have := pi_len l r; omega
    have ew : wrap64 ((i : Int) + 1) = ((i + 1 : Nat) : Int) := by unfold wrap64; omega
    rw [galleylaw31_OrderSorted.l1, if_pos (by omega), if_pos (by omega), if_pos (by rw [us_len]; omega), us_get l r i k (by omega), if_neg (by rw [decide_eq_true_eq, hk]; exact us_fresh l r i h), if_pos (by omega), if_pos (by rw [so_len]; omega)]
    have e : rd_L4 l (k : Int) = rd_L4 (so l r) (i : Int) := by rw [so_get l r i h, ← hk]; rfl
    rw [e, if_pos rfl, if_neg (by omega), Int.toNat_natCast, ew, Nat.add_zero]
    have es : (us l r i).set k true = us l r (i + 1) := by rw [hk]; exact us_set l r i h
    rw [es]
    by_cases c0 : c = 0
    · rw [if_pos c0, if_neg (by have := hc c0; omega), hk]
    · rw [if_neg c0, hk]
  | n + 1, k, f, h1, h2 => by
    have hpl := pi_lt l r i h
    have hil : i < l.length := by have := pi_len l r; omega
    have ew : wrap64 ((k : Int) + 1) = ((k + 1 : Nat) : Int) := by unfold wrap64; omega
    rw [show f + (n + 1) + 1 = (f + n + 1) + 1 by omega, galleylaw31_OrderSorted.l1, if_pos (by omega), if_pos (by omega), if_pos (by rw [us_len]; omega), us_get l r i k (by omega), ew]
    have go := l1_eq hn i h c last hc n (k + 1) f (by omega) (by omega)
    by_cases m : k ∈ (pi l r).take i
    · rw [if_pos (decide_eq_true m)]; exact go
    · rw [if_neg (by rw [decide_eq_true_eq]; exact m), if_pos (by omega), if_pos (by rw [so_len]; omega), if_neg]
      · exact go
      · intro e
        rw [so_get l r i h] at e
        have e2 : rd_L4 l (k : Int) = l.getD k [] := rfl
        rw [e2] at e
        exact m (us_first l r i h k (by omega) (strOf_inj _ _ (hb _ (getD_mem l k (by omega))) (hb _ (getD_mem l _ hpl)) e))
theorem cmp_le (a b : List Int) (h : ltV r b a = false) : cmpL (thingsV a r) (thingsV b r) ≤ 0 := by
  have h2 : ¬ cmpL (thingsV b r) (thingsV a r) < 0 := by unfold ltV at h; simpa using h
  have := cmpL_anti (thingsV a r) (thingsV b r)
  omega
theorem cmp_eq0 (a b : List Int) (h : cmpL (thingsV a r) (thingsV b r) = 0) : ltV r a b = false := by
  unfold ltV; rw [h]; rfl
theorem own_small (x : List Int) (h : x.length ≤ 1048576) : galleylaw31_own.f x = some x := by
  unfold galleylaw31_own.f
  simp only [Option.bind_some, List.length_nil, List.nil_append]
  rw [if_pos (by omega)]
theorem l2_eq (s : List (List Int)) (hs : s.length ≤ 1048576) : ∀ (n i k : Nat), n = s.length - i → i ≤ s.length → n + 1 ≤ k → galleylaw31_OrderSorted.l2 k s s i = some true
  | n, i, 0, h1, h2, hk => by omega
  | n, i, k + 1, h1, h2, hk => by
    have ew : wrap64 ((i : Int) + 1) = ((i + 1 : Nat) : Int) := by unfold wrap64; omega
    rw [galleylaw31_OrderSorted.l2, ew]
    by_cases c : i < s.length
    · rw [if_pos (by omega), if_pos (by omega), if_pos (by omega), if_pos rfl]
      match n, h1 with
      | 0, h1 => omega
      | n + 1, h1 => exact l2_eq s hs n (i + 1) k (by omega) (by omega) (by omega)
    · rw [if_neg (by omega)]
include hr hlen hn in
theorem sort_so : order_Sort.f l r = some (so l r, 0) := by
  unfold order_Sort.f
  have hall : (l.all small && decide (l.length < 1099511627776)) = true := by
    simp only [Bool.and_eq_true, List.all_eq_true, decide_eq_true_eq]
    exact ⟨fun x hx => by have := hlen x hx; simp only [small, decide_eq_true_eq]; omega, by omega⟩
  rw [if_pos hr, if_pos hall]; rfl
theorem so_mem (x : List Int) (h : x ∈ so l r) : x ∈ l := (List.mergeSort_perm _ _).mem_iff.1 h
include hr hlen hn in
theorem sort_again : order_Sort.f (so l r) r = some (so l r, 0) := by
  rw [sort_so (so l r) r hr (fun x hx => hlen x (so_mem l r x hx)) (by rw [so_len]; exact hn)]
  have hS := swo_ltV r
  have : so (so l r) r = so l r := by
    unfold so sortV
    refine List.mergeSort_of_pairwise (List.pairwise_mergeSort (fun a b c h1 h2 => ?_) (fun a b => ?_) l)
    · simp only [Bool.not_eq_true'] at h1 h2 ⊢; exact hS.ntrans _ _ _ h2 h1
    · cases h : ltV r b a with
      | false => rfl
      | true => rw [show ltV r a b = false from hS.asymmA h]; rfl
  rw [this]
include hr hb hlen hn in
theorem l0_eq : ∀ (n i k : Nat), n = l.length - i → i ≤ l.length → n * (l.length + 4) + 2 * l.length + 16 ≤ k →
    galleylaw31_OrderSorted.l0 k l r (so l r) (us l r i) (if h : 0 < i ∧ i ≤ (pi l r).length then (((pi l r)[i - 1]'(by omega) : Nat) : Int) else -1) i = some true
  | 0, i, k, h1, h2, hk => by
    obtain ⟨k, rfl⟩ : ∃ k', k = k' + 3 := ⟨k - 3, by omega⟩
    rw [galleylaw31_OrderSorted.l0, if_neg (by rw [so_len]; omega), copied_f (so l r) (fun x hx => hlen x (so_mem l r x hx)) (by rw [so_len]; exact hn) _ (by rw [so_len]; omega), Option.bind_some, sort_again l r hr hlen hn, Option.bind_some, if_pos rfl,
      galleylaw31_OrderSorted.j3, if_neg (by simp)]
    have := l2_eq (so l r) (by rw [so_len]; exact hn) (so l r).length 0 (k + 1) (by omega) (by omega) (by rw [so_len]; omega)
    rw [show ((0 : Nat) : Int) = 0 from rfl] at this
    exact this
  | n + 1, i, k, h1, h2, hk => by
    have hpl := pi_len l r
    have hi : i < (pi l r).length := by omega
    have hp := pi_lt l r i hi
    rw [Nat.succ_mul] at hk
    obtain ⟨k, rfl⟩ : ∃ k', k = (k' + (pi l r)[i] + 1) + 2 := ⟨k - (pi l r)[i] - 3, by omega⟩
    have nx := l0_eq n (i + 1) k (by omega) (by omega) (by omega)
    rw [dif_pos (by omega)] at nx
    replace nx : galleylaw31_OrderSorted.l0 k l r (so l r) (us l r (i + 1)) ((pi l r)[i]) ((i + 1 : Nat) : Int) = some true := nx
    rw [galleylaw31_OrderSorted.l0, if_pos (by rw [so_len]; omega)]
    by_cases c : 0 < i
    · have hi1 : i - 1 < (pi l r).length := by omega
      have hp1 := pi_lt l r (i - 1) hi1
      have ew : wrap64 ((i : Int) - 1) = ((i - 1 : Nat) : Int) := by unfold wrap64; omega
      rw [dif_pos ⟨c, by omega⟩, if_pos (by omega), ew, if_pos (by omega), if_pos (by rw [so_len]; omega), so_get l r (i - 1) hi1, so_get l r i hi]
      have m1 := getD_mem l _ hp1
      have m2 := getD_mem l _ hp
      have bef := pi_bef l r (i - 1) i (by omega) hi
      rw [own_small _ (hlen _ m1), Option.bind_some, if_pos (by omega), own_small _ (hlen _ m2), Option.bind_some]
      have hcmp : order_Compare.f (l.getD ((pi l r)[i - 1]) []) (l.getD ((pi l r)[i]) []) r = some (cmpL (thingsV (l.getD ((pi l r)[i - 1]) []) r) (thingsV (l.getD ((pi l r)[i]) []) r), 0) := by
        unfold order_Compare.f
        have h1 := hlen _ m1
        have h2 := hlen _ m2
        have hsm : (small (l.getD ((pi l r)[i - 1]) []) && small (l.getD ((pi l r)[i]) [])) = true := by simp only [small, Bool.and_eq_true, decide_eq_true_eq]; omega
        rw [if_pos hr, if_pos hsm]
      have hle := cmp_le r _ _ bef.1
      rw [hcmp, Option.bind_some, if_pos rfl, if_neg (by omega), galleylaw31_OrderSorted.j1]
      have := l1_eq l r hb hn i hi (cmpL (thingsV (l.getD ((pi l r)[i - 1]) []) r) (thingsV (l.getD ((pi l r)[i]) []) r)) (((pi l r)[i - 1] : Nat) : Int) (fun h0 => by have := bef.2 (cmp_eq0 r _ _ h0); omega) ((pi l r)[i]) 0 k (by omega) (by omega)
      rw [show ((0 : Nat) : Int) = 0 from rfl] at this
      rw [this]; exact nx
    · rw [dif_neg (by omega), if_neg (by omega), galleylaw31_OrderSorted.j1]
      have := l1_eq l r hb hn i hi (-1) (-1) (fun h0 => by omega) ((pi l r)[i]) 0 k (by omega) (by omega)
      rw [show ((0 : Nat) : Int) = 0 from rfl] at this
      rw [this]; exact nx
end
end Go.Proofs.YtdomggegacgmnaaDoor.sorted
namespace Go.Proofs.YtdomggegacgmnaaDoor.pure
open Go.RowKit PA srt sorted Go.Proofs.YtdomggegacgmnaaDoorW.PrintWords Go.Proofs.YtdomggegacgmnaaDoorW.PrintLast Go.Proofs.YtdomggegacgmnaaDoorW.PrintMore
theorem OrderSorted (l0 : List (List Int)) (a1 : Int) (h0 : (l0.map List.length).sum + l0.length ≤ 1048576) (w0 : ∀ l ∈ l0, ∀ x ∈ l, (Lit.int .u8 x).wf = true) (_w1 : (Lit.int .i64 a1).wf = true) : ∃ k, galleylaw31_OrderSorted.f k l0 a1 = some true := by
  have hb : ∀ x ∈ l0, ∀ y ∈ x, 0 ≤ y ∧ y ≤ 255 := fun x hx y hy => by
    have := w0 x hx y hy
    simp [Lit.wf, IntKind.min, IntKind.max, IntKind.bits, IntKind.signed] at this
    omega
  have hlen : ∀ x ∈ l0, x.length ≤ 1048576 := fun x hx => by have := sum_in l0 x hx; omega
  have hn : l0.length ≤ 1048576 := by omega
  refine ⟨l0.length * (l0.length + 4) + 2 * l0.length + 16, ?_⟩
  unfold galleylaw31_OrderSorted.f galleylaw31_wakes.f
  rw [Option.bind_some, if_pos rfl, copied_f l0 hlen hn _ (by omega), Option.bind_some]
  by_cases hr : a1 = 1 ∨ a1 = 2 ∨ a1 = 3
  · rw [sort_so l0 a1 hr hlen hn, Option.bind_some, if_pos rfl, if_pos (by rw [so_len]), if_pos (by omega), Int.toNat_natCast, if_pos (by omega), ← us_zero l0 a1]
    have := l0_eq l0 a1 hr hb hlen hn l0.length 0 (l0.length * (l0.length + 4) + 2 * l0.length + 16) (by omega) (by omega) (Nat.le_refl _)
    rw [dif_neg (by omega), show ((0 : Nat) : Int) = 0 from rfl] at this
    exact this
  · have : order_Sort.f l0 a1 = some ([], 3) := by unfold order_Sort.f; rw [if_neg hr]
    rw [this, Option.bind_some, if_neg (by simp)]; simp
end Go.Proofs.YtdomggegacgmnaaDoor.pure
