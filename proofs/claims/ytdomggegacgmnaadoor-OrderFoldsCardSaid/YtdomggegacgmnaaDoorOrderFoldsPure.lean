/- Plain law: OrderFolds' function answers true. Condition: at most 2^47 - 4096 bytes, all of them from 0 to 255. -/
import Derived.Test.YtdomggegacgmnaaDoorPAx14
import Derived.Test.YtdomggegacgmnaaDoorPAx2
import Derived.Test.YtdomggegacgmnaaDoorPAx3
import Derived.Test.YtdomggegacgmnaaDoorRefBytes
namespace Go.Proofs.YtdomggegacgmnaaDoor.fold
open Go.RowKit PA ref Go.Proofs.YtdomggegacgmnaaDoorW.PrintWords Go.Proofs.YtdomggegacgmnaaDoorW.PrintLast Go.Proofs.YtdomggegacgmnaaDoorW.PrintMore

def fo (c : Int) : Int := if 65 ≤ c ∧ c ≤ 90 then c + 32 else c
theorem fo_range (c : Int) (h : 0 ≤ c ∧ c ≤ 255) : 0 ≤ fo c ∧ fo c ≤ 255 := by unfold fo; split <;> omega
theorem fo_fo (c : Int) : fo (fo c) = fo c := by unfold fo; repeat' split
                                                 all_goals omega
theorem rd_in (l : List Int) (i : Nat) (h : i < l.length) : rd l (i : Int) = l[i] := by simp [rd, List.getD_eq_getElem?_getD, h]
theorem of_l (x : List Int) (w : ∀ c ∈ x, 0 ≤ c ∧ c ≤ 255) (hm : x.length ≤ 140737488351232) : ∀ (n i k : Nat) (out : List Int), n = x.length - i → i ≤ x.length → n + 1 ≤ k → out.length = x.length →
    order_Fold.l0 k out x (x.length : Int) i = some (out.take i ++ (x.drop i).map fo)
  | n, i, 0, out, h1, h2, hk, ho => by omega
  | n, i, k + 1, out, h1, h2, hk, ho => by
    have ew : wrap64 ((i : Int) + 1) = ((i + 1 : Nat) : Int) := by unfold wrap64; omega
    rw [order_Fold.l0, ew, ho]
    by_cases c : i < x.length
    · rw [if_pos (by omega), if_pos (by omega), if_pos (by omega), rd_in x i c, Int.toNat_natCast]
      have hw := w x[i] (List.getElem_mem c)
      have go : ∀ v, v = fo x[i] → order_Fold.l0 k (out.set i v) x (x.length : Int) ((i + 1 : Nat) : Int) = some (out.take i ++ (x.drop i).map fo) := by
        rintro v rfl
        match n, h1 with
        | 0, h1 => omega
        | n + 1, h1 =>
          rw [of_l x w hm n (i + 1) k _ (by omega) (by omega) (by omega) (by simp [ho]), List.drop_eq_getElem_cons c, List.map_cons, List.take_add_one]
          have : (out.set i (fo x[i])).take i = out.take i := by rw [List.take_set, List.set_eq_of_length_le (by rw [List.length_take]; omega)]
          rw [this, List.getElem?_set_self (by omega)]
          simp
      by_cases a : x[i] ≥ 65
      · rw [if_pos a]
        by_cases b : x[i] ≤ 90
        · rw [if_pos b, if_pos (by omega)]
          exact go _ (by unfold fo; rw [if_pos (by omega)]; omega)
        · rw [if_neg b, if_pos (by omega)]
          exact go _ (by unfold fo; rw [if_neg (by omega)])
      · rw [if_neg a, if_pos (by omega)]
        exact go _ (by unfold fo; rw [if_neg (by omega)])
    · rw [if_neg (by omega), List.drop_eq_nil_of_le (by omega), List.take_of_length_le (by omega)]; simp
theorem order_fold (x : List Int) (w : ∀ c ∈ x, 0 ≤ c ∧ c ≤ 255) (hm : x.length ≤ 140737488351232) (k : Nat) (hk : x.length + 1 ≤ k) : order_Fold.f k x = some (x.map fo) := by
  unfold order_Fold.f
  rw [if_pos (by omega), Int.toNat_natCast, if_pos (by omega)]
  have := of_l x w hm x.length 0 k (List.replicate x.length 0) (by omega) (by omega) hk (by simp)
  rw [show ((0 : Nat) : Int) = 0 from rfl] at this
  rw [this]; simp
theorem rf_l (x : List Int) (w : ∀ c ∈ x, 0 ≤ c ∧ c ≤ 255) (hm : x.length ≤ 140737488351232) : ∀ (n i k : Nat) (acc : List Int), n = x.length - i → i ≤ x.length → n + 1 ≤ k → acc.length ≤ i →
    galleyref31_Fold.l0 k x acc i = some (acc ++ (x.drop i).map fo)
  | n, i, 0, acc, h1, h2, hk, ho => by omega
  | n, i, k + 1, acc, h1, h2, hk, ho => by
    have ew : wrap64 ((i : Int) + 1) = ((i + 1 : Nat) : Int) := by unfold wrap64; omega
    rw [galleyref31_Fold.l0, ew]
    by_cases c : i < x.length
    · rw [if_pos (by omega), if_pos (by omega), rd_in x i c]
      have hw := w x[i] (List.getElem_mem c)
      have go : ∀ v, v = fo x[i] → galleyref31_Fold.l0 k x (acc ++ [v]) ((i + 1 : Nat) : Int) = some (acc ++ (x.drop i).map fo) := by
        rintro v rfl
        match n, h1 with
        | 0, h1 => omega
        | n + 1, h1 =>
          rw [rf_l x w hm n (i + 1) k _ (by omega) (by omega) (by omega) (by simp; omega), List.drop_eq_getElem_cons c, List.map_cons]
          simp
      by_cases a : x[i] ≥ 65
      · rw [if_pos a]
        by_cases b : x[i] ≤ 90
        · rw [if_pos b, if_pos (by omega)]
          exact go _ (by unfold fo; rw [if_pos (by omega)]; omega)
        · rw [if_neg b, if_pos (by omega)]
          exact go _ (by unfold fo; rw [if_neg (by omega)])
      · rw [if_neg a, if_pos (by omega)]
        exact go _ (by unfold fo; rw [if_neg (by omega)])
    · rw [if_neg (by omega), List.drop_eq_nil_of_le (by omega)]; simp
theorem ref_fold (x : List Int) (w : ∀ c ∈ x, 0 ≤ c ∧ c ≤ 255) (hm : x.length ≤ 140737488351232) (k : Nat) (hk : x.length + 1 ≤ k) : galleyref31_Fold.f k x = some (x.map fo) := by
  unfold galleyref31_Fold.f
  have := rf_l x w hm x.length 0 k [] (by omega) (by omega) hk (by simp)
  rw [show ((0 : Nat) : Int) = 0 from rfl] at this
  rw [this]; simp
/-! ### edges stay -/
theorem B_fold (l : List Int) (w : ∀ c ∈ l, 0 ≤ c ∧ c ≤ 255) (i : Nat) : (B (l.map fo) i < 128 ∧ B l i < 128) ∨ B (l.map fo) i = B l i := by
  unfold B
  rw [List.getD_eq_getElem?_getD, List.getD_eq_getElem?_getD, List.getElem?_map]
  by_cases h : i < l.length
  · rw [List.getElem?_eq_getElem h]
    simp only [Option.map_some, Option.getD_some]
    have hw := w l[i] (List.getElem_mem h)
    unfold fo
    split
    · left; omega
    · right; rfl
  · rw [List.getElem?_eq_none (by omega)]; right; rfl
theorem wN_fold (n b0 b1 b2 b3 c0 c1 c2 c3 : Nat) (h0 : (c0 < 128 ∧ b0 < 128) ∨ c0 = b0) (h1 : (c1 < 128 ∧ b1 < 128) ∨ c1 = b1) (h2 : (c2 < 128 ∧ b2 < 128) ∨ c2 = b2) (h3 : (c3 < 128 ∧ b3 < 128) ∨ c3 = b3) :
    wN n c0 c1 c2 c3 = wN n b0 b1 b2 b3 := by
  unfold wN
  by_cases a : b0 < 128
  · rw [if_pos a, if_pos (by omega)]
  · obtain rfl : c0 = b0 := by omega
    rw [if_neg a, if_neg a]
    have e1 : (194 ≤ c0 ∧ c0 ≤ 223 ∧ 1 < n ∧ 128 ≤ c1 ∧ c1 ≤ 191) = (194 ≤ c0 ∧ c0 ≤ 223 ∧ 1 < n ∧ 128 ≤ b1 ∧ b1 ≤ 191) := propext (by omega)
    have e2 : (2 < n ∧ 128 ≤ c2 ∧ c2 ≤ 191 ∧ ((c0 = 224 ∧ 160 ≤ c1 ∧ c1 ≤ 191) ∨ (225 ≤ c0 ∧ c0 ≤ 236 ∧ 128 ≤ c1 ∧ c1 ≤ 191) ∨ (c0 = 237 ∧ 128 ≤ c1 ∧ c1 ≤ 159) ∨ (238 ≤ c0 ∧ c0 ≤ 239 ∧ 128 ≤ c1 ∧ c1 ≤ 191))) = (2 < n ∧ 128 ≤ b2 ∧ b2 ≤ 191 ∧ ((c0 = 224 ∧ 160 ≤ b1 ∧ b1 ≤ 191) ∨ (225 ≤ c0 ∧ c0 ≤ 236 ∧ 128 ≤ b1 ∧ b1 ≤ 191) ∨ (c0 = 237 ∧ 128 ≤ b1 ∧ b1 ≤ 159) ∨ (238 ≤ c0 ∧ c0 ≤ 239 ∧ 128 ≤ b1 ∧ b1 ≤ 191))) := propext (by omega)
    have e3 : (3 < n ∧ 128 ≤ c2 ∧ c2 ≤ 191 ∧ 128 ≤ c3 ∧ c3 ≤ 191 ∧ ((c0 = 240 ∧ 144 ≤ c1 ∧ c1 ≤ 191) ∨ (241 ≤ c0 ∧ c0 ≤ 243 ∧ 128 ≤ c1 ∧ c1 ≤ 191) ∨ (c0 = 244 ∧ 128 ≤ c1 ∧ c1 ≤ 143))) = (3 < n ∧ 128 ≤ b2 ∧ b2 ≤ 191 ∧ 128 ≤ b3 ∧ b3 ≤ 191 ∧ ((c0 = 240 ∧ 144 ≤ b1 ∧ b1 ≤ 191) ∨ (241 ≤ c0 ∧ c0 ≤ 243 ∧ 128 ≤ b1 ∧ b1 ≤ 191) ∨ (c0 = 244 ∧ 128 ≤ b1 ∧ b1 ≤ 143))) := propext (by omega)
    simp only [e1, e2, e3]
theorem step_fold (l : List Int) (w : ∀ c ∈ l, 0 ≤ c ∧ c ≤ 255) (q : Nat) : stepW (l.map fo) q = stepW l q := by
  unfold stepW wAt
  rw [List.length_map, wN_fold _ _ _ _ _ _ _ _ _ (B_fold l w q) (B_fold l w (q + 1)) (B_fold l w (q + 2)) (B_fold l w (q + 3))]
theorem inside_fold (l : List Int) (w : ∀ c ∈ l, 0 ≤ c ∧ c ≤ 255) (p : Nat) (hp : p ≤ l.length) : insideV (l.map fo) p = 0 ↔ insideV l p = 0 := by
  rw [inside_zero _ p (by simpa using hp), inside_zero l p hp]
  simp only [step_fold l w]
theorem map_range (l : List Int) (w : ∀ c ∈ l, 0 ≤ c ∧ c ≤ 255) : ∀ c ∈ l.map fo, 0 ≤ c ∧ c ≤ 255 := fun c hc => by
  obtain ⟨d, hd, rfl⟩ := List.mem_map.1 hc
  exact fo_range d (w d hd)
theorem edge_f (l : List Int) (w : ∀ x ∈ l, 0 ≤ x ∧ x ≤ 255) (p : Nat) (hp : p ≤ l.length) (hm : l.length ≤ 140737488351232) (k : Nat) : galleyref02_Edge.f (k + 4) l p = some (decide (insideV l p = 0)) := by
  unfold galleyref02_Edge.f
  rw [if_pos (by omega), if_pos (by omega), inside_f l w p hp (by omega) k, Option.bind_some]
  simp
theorem law_l (l : List Int) (w : ∀ c ∈ l, 0 ≤ c ∧ c ≤ 255) (hm : l.length ≤ 140737488351232) : ∀ (n p k : Nat), n = l.length + 1 - p → p ≤ l.length + 1 → n + 5 ≤ k →
    galleylaw31_OrderFolds.l0 k l (l.map fo) p = some true
  | n, p, 0, h1, h2, hk => by omega
  | n, p, k + 1, h1, h2, hk => by
    have ew : wrap64 ((p : Int) + 1) = ((p + 1 : Nat) : Int) := by unfold wrap64; omega
    rw [galleylaw31_OrderFolds.l0, ew]
    by_cases c : p ≤ l.length
    · match n, h1 with
      | 0, h1 => omega
      | n + 1, h1 =>
        obtain ⟨k, rfl⟩ : ∃ k', k = k' + 4 := ⟨k - 4, by omega⟩
        rw [if_pos (by omega), edge_f l w p c hm k, edge_f (l.map fo) (map_range l w) p (by simpa using c) (by simpa using hm) k, Option.bind_some, Option.bind_some]
        have e : decide (insideV (l.map fo) p = 0) = decide (insideV l p = 0) := by
          have := inside_fold l w p c
          by_cases a : insideV l p = 0
          · rw [decide_eq_true a, decide_eq_true (this.2 a)]
          · rw [decide_eq_false a, decide_eq_false (fun g => a (this.1 g))]
        rw [e, if_neg (by simp)]
        exact law_l l w hm n (p + 1) (k + 4) (by omega) (by omega) (by omega)
    · rw [if_neg (by omega)]
theorem map_idem (l : List Int) : (l.map fo).map fo = l.map fo := by
  rw [List.map_map]; exact List.map_congr_left fun c _ => fo_fo c
theorem own_full (l : List Int) (h : l.length ≤ 140737488351232) : galleylaw31_own.f l = some l := by
  unfold galleylaw31_own.f
  simp only [Option.bind_some, List.length_nil, List.nil_append]
  rw [if_pos (by omega)]
end Go.Proofs.YtdomggegacgmnaaDoor.fold
namespace Go.Proofs.YtdomggegacgmnaaDoor.pure
open Go.RowKit PA ref fold Go.Proofs.YtdomggegacgmnaaDoorW.PrintWords Go.Proofs.YtdomggegacgmnaaDoorW.PrintLast Go.Proofs.YtdomggegacgmnaaDoorW.PrintMore
theorem OrderFolds (l0 : List Int) (h0 : l0.length ≤ 140737488351232) (w0 : ∀ x ∈ l0, (Lit.int .u8 x).wf = true) : ∃ k, galleylaw31_OrderFolds.f k l0 = some true := by
  have w : ∀ x ∈ l0, 0 ≤ x ∧ x ≤ 255 := fun x hx => by
    have := w0 x hx
    simp [Lit.wf, IntKind.min, IntKind.max, IntKind.bits, IntKind.signed] at this
    omega
  refine ⟨l0.length + 16, ?_⟩
  have w2 := map_range l0 w
  have h2 : (l0.map fo).length ≤ 140737488351232 := by simpa using h0
  unfold galleylaw31_OrderFolds.f galleylaw31_wakes.f
  rw [Option.bind_some, if_pos rfl, own_full l0 h0, Option.bind_some, order_fold l0 w h0 _ (by omega), Option.bind_some, ref_fold l0 w h0 _ (by omega), Option.bind_some, if_pos rfl, own_full _ h2, Option.bind_some,
    order_fold _ w2 h2 _ (by simp), Option.bind_some, map_idem, galleylaw31_OrderFolds.j0, if_neg (by simp)]
  have := law_l l0 w h0 (l0.length + 1) 0 (l0.length + 15) (by omega) (by omega) (by omega)
  rw [show ((0 : Nat) : Int) = 0 from rfl] at this
  exact this
end Go.Proofs.YtdomggegacgmnaaDoor.pure
