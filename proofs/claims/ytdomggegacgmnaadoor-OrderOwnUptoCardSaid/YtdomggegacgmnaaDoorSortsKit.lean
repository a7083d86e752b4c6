/- Plain law: sorting by insertion leaves core's mergeSort. No condition but a strict weak order. -/
import Derived.Test.YtdomggegacgmnaaDoorGSort
namespace Go.Proofs.YtdomggegacgmnaaDoor.srt
open Go.RowKit PA Go.Sort Go.Proofs.YtdomggegacgmnaaDoorW.PrintWords Go.Proofs.YtdomggegacgmnaaDoorW.PrintLast Go.Proofs.YtdomggegacgmnaaDoorW.PrintMore

/-! ### the reference's insertion -/
def insN (lt : Nat → Nat → Bool) (i : Nat) : List Nat → List Nat
  | [] => [i]
  | o :: os => if lt i o = true then i :: o :: os else o :: insN lt i os
def refN (lt : Nat → Nat → Bool) : Nat → List Nat
  | 0 => []
  | n + 1 => insN lt n (refN lt n)
theorem insN_perm (lt : Nat → Nat → Bool) (i : Nat) : ∀ os, (insN lt i os).Perm (i :: os)
  | [] => List.Perm.refl _
  | o :: os => by
    rw [insN]
    by_cases c : lt i o = true
    · rw [if_pos c]
    · rw [if_neg c]
      exact ((insN_perm lt i os).cons o).trans (List.Perm.swap i o os)
theorem insN_len (lt : Nat → Nat → Bool) (i : Nat) (os : List Nat) : (insN lt i os).length = os.length + 1 := (insN_perm lt i os).length_eq
theorem refN_perm (lt : Nat → Nat → Bool) : ∀ n, (refN lt n).Perm (List.range n)
  | 0 => List.Perm.refl _
  | n + 1 => by
    rw [refN, List.range_succ]
    exact (insN_perm lt n _).trans (((refN_perm lt n).cons n).trans (List.perm_append_singleton n _).symm)
theorem refN_len (lt : Nat → Nat → Bool) (n : Nat) : (refN lt n).length = n := by have := (refN_perm lt n).length_eq; simpa using this
theorem refN_lt (lt : Nat → Nat → Bool) (n : Nat) : ∀ o ∈ refN lt n, o < n := fun o h => by
  have := (refN_perm lt n).mem_iff.1 h
  simpa using this
/-- before: not behind, and of two alike the elder -/
def Bef (lt : Nat → Nat → Bool) (i j : Nat) : Prop := lt j i = false ∧ (lt i j = false → i < j)
theorem insN_sorted (lt : Nat → Nat → Bool) (hS : SWO lt) (i : Nat) : ∀ os, (∀ o ∈ os, o < i) → os.Pairwise (Bef lt) → (insN lt i os).Pairwise (Bef lt)
  | [], _, _ => by simp [insN]
  | o :: os, hl, hp => by
    rw [insN]
    obtain ⟨h1, h2⟩ := List.pairwise_cons.1 hp
    by_cases c : lt i o = true
    · rw [if_pos c]
      refine List.pairwise_cons.2 ⟨fun q hq => ?_, hp⟩
      have hq2 : lt i q = true := by
        rcases List.mem_cons.1 hq with rfl | hq
        · exact c
        · cases g : lt i q with
          | true => rfl
          | false =>
            have := hS.ntrans _ _ _ g (h1 q hq).1
            rw [this] at c; cases c
      refine ⟨?_, fun g => by rw [hq2] at g; cases g⟩
      cases g : lt q i with
      | false => rfl
      | true => have := hS.trans _ _ _ hq2 g; rw [hS.irrefl] at this; cases this
    · rw [if_neg c]
      refine List.pairwise_cons.2 ⟨fun q hq => ?_, insN_sorted lt hS i os (fun q hq => hl q (by simp [hq])) h2⟩
      rcases List.mem_cons.1 ((insN_perm lt i os).mem_iff.1 hq) with rfl | hq
      · exact ⟨by simpa using c, fun _ => hl o (by simp)⟩
      · exact h1 q hq
theorem refN_sorted (lt : Nat → Nat → Bool) (hS : SWO lt) : ∀ n, (refN lt n).Pairwise (Bef lt)
  | 0 => by simp [refN]
  | n + 1 => insN_sorted lt hS n _ (refN_lt lt n) (refN_sorted lt hS n)
/-- THE REFERENCE'S ORDER LEAVES core's mergeSort. -/
theorem refN_merge {α : Type} (lt : α → α → Bool) (hS : SWO lt) (l : List α) (d : α) :
    (refN (fun i j => lt (l.getD i d) (l.getD j d)) l.length).map (fun o => l.getD o d) = l.mergeSort (fun x y => !lt y x) := by
  have hS' : SWO (fun i j : Nat => lt (l.getD i d) (l.getD j d)) := ⟨fun _ => hS.irrefl _, fun _ _ _ => hS.trans _ _ _, fun _ _ _ => hS.ntrans _ _ _⟩
  have hr := refN_perm (fun i j => lt (l.getD i d) (l.getD j d)) l.length
  have hp := refN_sorted _ hS' l.length
  generalize refN (fun i j => lt (l.getD i d) (l.getD j d)) l.length = os at hr hp ⊢
  have hz : l.zipIdx = (List.range l.length).map (fun o => (l.getD o d, o)) := by
    apply List.ext_getElem
    · simp
    · intro k h1 h2
      have hk : k < l.length := by simpa using h1
      simp [List.getD_eq_getElem?_getD, hk]
  have hperm : (os.map (fun o => (l.getD o d, o))).Perm l.zipIdx := by rw [hz]; exact hr.map _
  have hpw : (os.map (fun o => (l.getD o d, o))).Pairwise (fun a b => List.zipIdxLE (fun x y => !lt y x) a b = true) := by
    rw [List.pairwise_map]
    refine hp.imp fun {i j} h => ?_
    obtain ⟨h1, h2⟩ := h
    unfold List.zipIdxLE
    simp only [h1]
    cases g : lt (l.getD i d) (l.getD j d) with
    | true => simp
    | false => simpa using Nat.le_of_lt (h2 g)
  have tr : ∀ a b c : α, (!lt b a) = true → (!lt c b) = true → (!lt c a) = true := fun a b c h1 h2 => by
    simp only [Bool.not_eq_true'] at h1 h2 ⊢; exact hS.ntrans _ _ _ h2 h1
  have tt : ∀ a b : α, ((!lt b a) || (!lt a b)) = true := fun a b => by
    cases h : lt b a with
    | false => rfl
    | true => rw [hS.asymmA h]; rfl
  have hm : os.map (fun o => (l.getD o d, o)) = l.zipIdx.mergeSort (List.zipIdxLE (fun x y => !lt y x)) := by
    refine List.Perm.eq_of_pairwise (le := fun a b => List.zipIdxLE (fun x y => !lt y x) a b = true) ?_ hpw (List.pairwise_mergeSort ?_ ?_ _) (hperm.trans (List.mergeSort_perm _ _).symm)
    · rintro ⟨x, i⟩ ⟨y, j⟩ ha hb h1 h2
      have ha := hperm.mem_iff.1 ha
      have hb := (List.mergeSort_perm _ _).mem_iff.1 hb
      rw [List.mem_zipIdx_iff_getElem?] at ha hb
      have hij : i = j := by
        unfold List.zipIdxLE at h1 h2
        cases g1 : lt y x <;> cases g2 : lt x y <;> simp [g1, g2] at h1 h2
        omega
      subst hij
      simp only at ha hb
      rw [ha] at hb; injection hb with hb; rw [hb]
    · exact fun a b c => List.zipIdxLE_trans tr a b c
    · exact fun a b => List.zipIdxLE_total tt a b
  have e : os.map (fun o => l.getD o d) = (os.map (fun o => (l.getD o d, o))).map (·.1) := by rw [List.map_map]; rfl
  rw [e, hm]
  exact List.mergeSort_zipIdx

def ltN (l : List (List Int)) (r : Int) (i j : Nat) : Bool := ltV r (l.getD i []) (l.getD j [])
theorem strOf_inj (a b : List Int) (ha : ∀ x ∈ a, 0 ≤ x ∧ x ≤ 255) (hb : ∀ x ∈ b, 0 ≤ x ∧ x ≤ 255) (h : (strOfNums a).toList = (strOfNums b).toList) : a = b := by
  rw [Go.ByteArray.toList_eq, Go.ByteArray.toList_eq] at h
  have h : (a.map fun n => UInt8.ofNat n.toNat) = (b.map fun n => UInt8.ofNat n.toNat) := h
  induction a generalizing b with
  | nil => cases b with
    | nil => rfl
    | cons y ys => simp at h
  | cons x xs ih =>
    cases b with
    | nil => simp at h
    | cons y ys =>
      simp only [List.map_cons, List.cons.injEq] at h
      have hx := ha x (by simp)
      have hy := hb y (by simp)
      have e := congrArg UInt8.toNat h.1
      simp only [UInt8.toNat_ofNat'] at e
      rw [ih ys (fun z hz => ha z (by simp [hz])) (fun z hz => hb z (by simp [hz])) h.2 h.2, show x = y by omega]
theorem sum_in : ∀ (ls : List (List Int)), ∀ x ∈ ls, x.length ≤ (ls.map List.length).sum
  | [], x, h => by cases h
  | y :: ls, x, h => by
    rcases List.mem_cons.1 h with rfl | h
    · simp
    · have := sum_in ls x h
      simp only [List.map_cons, List.sum_cons]; omega
end Go.Proofs.YtdomggegacgmnaaDoor.srt
