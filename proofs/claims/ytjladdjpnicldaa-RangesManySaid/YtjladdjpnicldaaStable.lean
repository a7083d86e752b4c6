/-
  Plain Lean, no program: Go's slices.SortStableFunc (insertion sort of blocks of twenty, symMerge, rotations) as functions over an array;
  theorem stable_merge: what it leaves is core's mergeSort, the stable sorted list. Condition: 'less' is a strict weak order.
-/
import Derived.Sort.LotA
namespace Go.Proofs.Ytjladdjpnicldaa
open Go.Sort
section
variable {α : Type} [Inhabited α]

/-- arrays are equal where their places are -/
theorem arr_ext {d d' : Array α} (hs : d'.size = d.size) (h : ∀ k, k < d.size → d'[k]! = d[k]!) : d' = d :=
  Array.ext hs fun k h1 h2 => by have := h k h2; rwa [getElem!_pos d' k h1, getElem!_pos d k h2] at this
theorem get_out (d : Array α) (k : Nat) (h : ¬ k < d.size) : d[k]! = default := by
  rw [getElem!_neg d k h]

/-! ### swapRange -/
/-- n exchanges, of a + i with b + i. -/
def swapR (d : Array α) (a b : Nat) : Nat → Array α
  | 0 => d
  | n + 1 => swp (swapR d a b n) (a + n) (b + n)
@[simp] theorem size_swapR (d : Array α) (a b n : Nat) : (swapR d a b n).size = d.size := by
  induction n with
  | zero => rfl
  | succ n ih => rw [swapR, size_swp, ih]
/-- where what stands at k behind the exchanges stood -/
def sig (a b n k : Nat) : Nat := if a ≤ k ∧ k < a + n then k - a + b else if b ≤ k ∧ k < b + n then k - b + a else k
theorem swp_at (d : Array α) (i j : Nat) (hi : i < d.size) (hj : j < d.size) (k : Nat) : (swp d i j)[k]! = d[if k = j then i else if k = i then j else k]! := by
  rw [swp_get d hi hj]; split
  · rfl
  · split <;> rfl
theorem swapR_get (d : Array α) (a b n : Nat) (hab : a + n ≤ b) (hb : b + n ≤ d.size) : ∀ k : Nat, (swapR d a b n)[k]! = d[sig a b n k]! := by
  induction n with
  | zero => intro k; rw [swapR]; congr 1; unfold sig; (repeat' split) <;> omega
  | succ n ih =>
    intro k
    have ih := ih (by omega) (by omega)
    rw [swapR, swp_at _ _ _ (by simp; omega) (by simp; omega), ih]
    congr 1
    unfold sig
    (repeat' split) <;> omega

/-! ### rotate -/
/-- where what stands at k behind the rotation stood -/
def rho (a m b k : Nat) : Nat := if a ≤ k ∧ k < a + (b - m) then k - a + m else if a + (b - m) ≤ k ∧ k < b then k - (b - m) else k
def rot (d : Array α) (a m b : Nat) : Array α := (Array.range d.size).map fun k => d[rho a m b k]!
@[simp] theorem size_rot (d : Array α) (a m b : Nat) : (rot d a m b).size = d.size := by simp [rot]
theorem rot_get (d : Array α) (a m b : Nat) (ham : a ≤ m) (hb : b ≤ d.size) (k : Nat) : (rot d a m b)[k]! = d[rho a m b k]! := by
  by_cases h : k < d.size
  · rw [getElem!_pos _ k (by simpa using h)]; simp [rot]
  · rw [get_out _ k (by simpa using h)]
    have : rho a m b k = k := by unfold rho; rw [if_neg (by omega), if_neg (by omega)]
    rw [this, get_out _ k h]
theorem rot_of {d d' : Array α} {a m b : Nat} (ham : a ≤ m) (hb : b ≤ d.size) (hs : d'.size = d.size) (h : ∀ k, d'[k]! = d[rho a m b k]!) : d' = rot d a m b :=
  arr_ext (by simpa using hs) fun k _ => by rw [h, rot_get d a m b ham hb]
/-- nothing to turn -/
theorem rot_left (d : Array α) (a b : Nat) (hab : a ≤ b) (hb : b ≤ d.size) : rot d a a b = d :=
  (rot_of (Nat.le_refl _) hb rfl fun k => by
    have : rho a a b k = k := by unfold rho; split <;> (try split) <;> omega
    rw [this]).symm
theorem rot_right (d : Array α) (a m : Nat) (ham : a ≤ m) (hb : m ≤ d.size) : rot d a m m = d :=
  (rot_of ham hb rfl fun k => by
    have : rho a m m k = k := by unfold rho; split <;> (try split) <;> omega
    rw [this]).symm

/-- rotate's loop, one round: i > j -/
theorem rot_step_gt (d : Array α) (m i j : Nat) (hi : i ≤ m) (hj : m + j ≤ d.size) (h : j < i) :
    rot (swapR d (m - i) m j) (m - (i - j)) m (m + j) = rot d (m - i) m (m + j) := by
  refine rot_of (by omega) hj (by simp) fun k => ?_
  rw [rot_get _ _ _ _ (by omega) (by simpa using hj), swapR_get d (m - i) m j (by omega) (by omega)]
  congr 1
  obtain ⟨x, rfl⟩ : ∃ x, m = x + i := ⟨m - i, by omega⟩
  obtain ⟨y, rfl⟩ : ∃ y, i = y + j := ⟨i - j, by omega⟩
  rw [show x + (y + j) - (y + j) = x by omega, show y + j - j = y by omega, show x + (y + j) - y = x + j by omega]
  unfold rho sig
  (repeat' split) <;> omega
/-- i < j -/
theorem rot_step_lt (d : Array α) (m i j : Nat) (hi : i ≤ m) (hj : m + j ≤ d.size) (h : i < j) :
    rot (swapR d (m - i) (m + j - i) i) (m - i) m (m + (j - i)) = rot d (m - i) m (m + j) := by
  refine rot_of (by omega) hj (by simp) fun k => ?_
  rw [rot_get _ _ _ _ (by omega) (by simp; omega), swapR_get d (m - i) (m + j - i) i (by omega) (by omega)]
  congr 1
  obtain ⟨x, rfl⟩ : ∃ x, m = x + i := ⟨m - i, by omega⟩
  obtain ⟨y, rfl⟩ : ∃ y, j = y + i := ⟨j - i, by omega⟩
  rw [show x + i - i = x by omega, show y + i - i = y by omega, show x + i + (y + i) - i = x + i + y by omega]
  unfold rho sig
  (repeat' split) <;> omega
/-- i = j -/
theorem rot_step_eq (d : Array α) (m i : Nat) (hi : i ≤ m) (hj : m + i ≤ d.size) : swapR d (m - i) m i = rot d (m - i) m (m + i) := by
  refine rot_of (by omega) hj (by simp) fun k => ?_
  rw [swapR_get d (m - i) m i (by omega) (by omega)]
  congr 1
  unfold rho sig
  (repeat' split) <;> omega

/-- data[a] carried up to i - 1, one exchange a round -/
theorem rot_up (d : Array α) (a k : Nat) (hak : a ≤ k) (hk : k + 1 < d.size) : swp (rot d a (a + 1) (k + 1)) k (k + 1) = rot d a (a + 1) (k + 2) := by
  refine rot_of (by omega) (by omega) (by rw [size_swp]; simp) fun q => ?_
  rw [swp_at _ _ _ (by simp; omega) (by simp; omega), rot_get _ _ _ _ (by omega) (by omega)]
  congr 1
  unfold rho
  (repeat' split) <;> omega
/-- data[m] carried down to i, one exchange a round: it stands at k -/
theorem rot_down (d : Array α) (k m : Nat) (hk : 0 < k) (hkm : k ≤ m) (hm : m < d.size) : swp (rot d k m (m + 1)) k (k - 1) = rot d (k - 1) m (m + 1) := by
  refine rot_of (by omega) (by omega) (by rw [size_swp]; simp) fun q => ?_
  rw [swp_at _ _ _ (by simp; omega) (by simp; omega), rot_get _ _ _ _ (by omega) (by omega)]
  congr 1
  unfold rho
  (repeat' split) <;> omega

/-! a rotation is a permutation -/
theorem extract_get (d : Array α) (a b : Nat) (hb : b ≤ d.size) : (d.extract a b).toList = (List.range' a (b - a)).map (fun i => d[i]!) := extract_toList d a b hb
theorem range'_cut (a m b : Nat) (h1 : a ≤ m) (h2 : m ≤ b) : List.range' a (b - a) = List.range' a (m - a) ++ List.range' m (b - m) := by
  have := List.range'_append_1 (s := a) (m := m - a) (n := b - m)
  rw [show a + (m - a) = m by omega, show m - a + (b - m) = b - a by omega] at this
  exact this.symm
omit [Inhabited α] in
theorem map_shift (f g : Nat → α) (a c n : Nat) (h : ∀ i, i < n → f (a + i) = g (c + i)) : (List.range' a n).map f = (List.range' c n).map g := by
  apply List.ext_getElem
  · simp
  · intro k h1 h2
    simp only [List.length_map, List.length_range'] at h1
    simp only [List.getElem_map, List.getElem_range', Nat.one_mul]
    exact h k h1
theorem rot_permIn (d : Array α) (a m b : Nat) (ham : a ≤ m) (hmb : m ≤ b) (hb : b ≤ d.size) : PermIn a b d (rot d a m b) := by
  refine ⟨by simp, fun i hi => ?_, ?_⟩
  · rw [rot_get d a m b ham hb]
    have : rho a m b i = i := by unfold rho; rw [if_neg (by omega), if_neg (by omega)]
    rw [this]
  · rw [extract_get _ a b (by simpa using hb), extract_get d a b hb]
    conv => lhs; rw [range'_cut a (a + (b - m)) b (by omega) (by omega), List.map_append]
    conv => rhs; rw [range'_cut a m b ham hmb, List.map_append]
    have e1 : (List.range' a (a + (b - m) - a)).map (fun i => (rot d a m b)[i]!) = (List.range' m (b - m)).map (fun i => d[i]!) := by
      rw [show a + (b - m) - a = b - m by omega]
      exact map_shift _ _ _ _ _ fun i hi => by
        show (rot d a m b)[a + i]! = d[m + i]!
        rw [rot_get d a m b ham hb]; unfold rho; rw [if_pos (by omega)]; congr 1; omega
    have e2 : (List.range' (a + (b - m)) (b - (a + (b - m)))).map (fun i => (rot d a m b)[i]!) = (List.range' a (m - a)).map (fun i => d[i]!) := by
      rw [show b - (a + (b - m)) = m - a by omega]
      exact map_shift _ _ _ _ _ fun i hi => by
        show (rot d a m b)[a + (b - m) + i]! = d[a + i]!
        rw [rot_get d a m b ham hb]; unfold rho; rw [if_neg (by omega), if_pos (by omega)]; congr 1; omega
    rw [e1, e2]
    exact List.perm_append_comm

/-! ### the binary searches -/
def bs (p : Nat → Bool) (i j : Nat) : Nat :=
  if i < j then (if p ((i + j) / 2) = true then bs p ((i + j) / 2 + 1) j else bs p i ((i + j) / 2)) else i
termination_by j - i
theorem bs_spec (p : Nat → Bool) (n : Nat) : ∀ i j, j - i ≤ n → i ≤ j → (∀ x y, i ≤ x → x ≤ y → y < j → p y = true → p x = true) →
    i ≤ bs p i j ∧ bs p i j ≤ j ∧ (∀ x, i ≤ x → x < bs p i j → p x = true) ∧ (∀ x, bs p i j ≤ x → x < j → p x = false) := by
  induction n with
  | zero =>
    intro i j hn hij _
    rw [bs, if_neg (by omega)]
    exact ⟨by omega, hij, fun x h1 h2 => by omega, fun x h1 h2 => by omega⟩
  | succ n ih =>
    intro i j hn hij hm
    rw [bs]
    by_cases h : i < j
    · rw [if_pos h]
      by_cases hp : p ((i + j) / 2) = true
      · rw [if_pos hp]
        obtain ⟨h1, h2, h3, h4⟩ := ih ((i + j) / 2 + 1) j (by omega) (by omega) (fun x y hx hxy hy => hm x y (by omega) hxy hy)
        refine ⟨by omega, h2, fun x hx1 hx2 => ?_, h4⟩
        by_cases hx : (i + j) / 2 + 1 ≤ x
        · exact h3 x hx hx2
        · exact hm x ((i + j) / 2) hx1 (by omega) (by omega) hp
      · rw [if_neg hp]
        obtain ⟨h1, h2, h3, h4⟩ := ih i ((i + j) / 2) (by omega) (by omega) (fun x y hx hxy hy => hm x y hx hxy (by omega))
        refine ⟨h1, by omega, h3, fun x hx1 hx2 => ?_⟩
        by_cases hx : x < (i + j) / 2
        · exact h4 x hx1 hx
        · refine Bool.eq_false_iff.2 fun hpx => hp (hm ((i + j) / 2) x (by omega) (by omega) hx2 hpx)
    · rw [if_neg h]
      exact ⟨Nat.le_refl _, by omega, fun x h1 h2 => by omega, fun x h1 h2 => by omega⟩

/-! ### symMerge -/
def symMerge (lt : α → α → Bool) : Nat → Array α → Nat → Nat → Nat → Array α
  | 0, d, _, _, _ => d
  | f + 1, d, a, m, b =>
    if m - a = 1 then rot d a (a + 1) (bs (fun h => lt d[h]! d[a]!) m b)
    else if b - m = 1 then rot d (bs (fun h => !lt d[m]! d[h]!) a m) m (m + 1)
    else
      let mid := (a + b) / 2
      let n := mid + m
      let s := if mid < m then bs (fun c => !lt d[n - 1 - c]! d[c]!) (n - b) mid else bs (fun c => !lt d[n - 1 - c]! d[c]!) a m
      let e := n - s
      let d1 := if s < m ∧ m < e then rot d s m e else d
      let d2 := if a < s ∧ s < mid then symMerge lt f d1 a s mid else d1
      if mid < e ∧ e < b then symMerge lt f d2 mid e b else d2

/-! ### symMerge merges -/
theorem SortedIn.le {tl : α → α → Bool} (hS : SWO tl) {a b : Nat} {d : Array α} (h : SortedIn tl a b d) {i j : Nat} (h1 : a ≤ i) (h2 : i ≤ j) (h3 : j < b) : tl d[j]! d[i]! = false := by
  by_cases e : i = j
  · subst e; exact hS.irrefl _
  · exact h i j h1 (by omega) h3
theorem glue {tl : α → α → Bool} {a m b : Nat} {d : Array α} (h1 : SortedIn tl a m d) (h2 : SortedIn tl m b d) (hx : ∀ i j, a ≤ i → i < m → m ≤ j → j < b → tl d[j]! d[i]! = false) : SortedIn tl a b d := by
  intro i j hi hij hj
  by_cases hjm : j < m
  · exact h1 i j hi hij hjm
  · by_cases him : i < m
    · exact hx i j hi him (by omega) hj
    · exact h2 i j (by omega) hij hj
theorem sorted_sub {tl : α → α → Bool} {a b a' b' : Nat} {d : Array α} (h : SortedIn tl a b d) (h1 : a ≤ a') (h2 : b' ≤ b) : SortedIn tl a' b' d :=
  fun i j hi hij hj => h i j (by omega) hij (by omega)
theorem sorted_congr {tl : α → α → Bool} {a b : Nat} {d d' : Array α} (h : SortedIn tl a b d) (he : ∀ k, a ≤ k → k < b → d'[k]! = d[k]!) : SortedIn tl a b d' := by
  intro i j hi hij hj
  rw [he i hi (by omega), he j (by omega) hj]; exact h i j hi hij hj

/-- what the two cases of the search's bounds have in common -/
theorem mid_spec (lt tl : α → α → Bool) (hS : SWO tl) (d : Array α) (a m b : Nat) (h1 : a < m) (h2 : m < b) (hL : SortedIn tl a m d) (hR : SortedIn tl m b d)
    (hA : ∀ i j, a ≤ i → i < m → m ≤ j → j < b → lt d[j]! d[i]! = tl d[j]! d[i]!) (mid n s : Nat) (hmid : mid = (a + b) / 2) (hn : n = mid + m)
    (hs : s = if mid < m then bs (fun c => !lt d[n - 1 - c]! d[c]!) (n - b) mid else bs (fun c => !lt d[n - 1 - c]! d[c]!) a m) :
    a ≤ s ∧ s ≤ m ∧ s ≤ mid ∧ m ≤ n - s ∧ n - s ≤ b ∧ mid ≤ n - s ∧ s ≤ n ∧
    (∀ x y, a ≤ x → x < s → n - s ≤ y → y < b → tl d[y]! d[x]! = false) ∧ (∀ x y, m ≤ x → x < n - s → s ≤ y → y < m → tl d[y]! d[x]! = false) := by
  -- the search over [lo, hi), all of whose places lie left, their partners right
  have core : ∀ lo hi, a ≤ lo → lo ≤ hi → hi ≤ m → hi ≤ mid → n ≤ b + lo → (lo = a ∨ n = b + lo) → (hi = m ∨ hi = mid) → m ≤ n - hi → mid ≤ n - hi → s = bs (fun c => !lt d[n - 1 - c]! d[c]!) lo hi →
      a ≤ s ∧ s ≤ m ∧ s ≤ mid ∧ m ≤ n - s ∧ n - s ≤ b ∧ mid ≤ n - s ∧ s ≤ n ∧
      (∀ x y, a ≤ x → x < s → n - s ≤ y → y < b → tl d[y]! d[x]! = false) ∧ (∀ x y, m ≤ x → x < n - s → s ≤ y → y < m → tl d[y]! d[x]! = false) := by
    intro lo hi g1 g2 g3 g4 g5 g6 g7 g8 g9 es
    have hp : ∀ c, lo ≤ c → c < hi → (!lt d[n - 1 - c]! d[c]!) = !tl d[n - 1 - c]! d[c]! := fun c hc1 hc2 => by
      rw [hA c (n - 1 - c) (by omega) (by omega) (by omega) (by omega)]
    obtain ⟨b1, b2, b3, b4⟩ := bs_spec (fun c => !lt d[n - 1 - c]! d[c]!) (hi - lo) lo hi (Nat.le_refl _) g2 (by
      intro x y hx hxy hy hpy
      have hpy : (!lt d[n - 1 - y]! d[y]!) = true := hpy
      show (!lt d[n - 1 - x]! d[x]!) = true
      rw [hp y (by omega) hy] at hpy
      rw [hp x hx (by omega)]
      have q1 : tl d[n - 1 - y]! d[y]! = false := by simpa using hpy
      have q2 : tl d[y]! d[x]! = false := SortedIn.le hS hL (by omega) hxy (by omega)
      have q3 : tl d[n - 1 - x]! d[n - 1 - y]! = false := SortedIn.le hS hR (by omega) (by omega) (by omega)
      have := hS.ntrans _ _ _ q3 (hS.ntrans _ _ _ q1 q2)
      simpa using this)
    rw [← es] at b1 b2 b3 b4
    refine ⟨by omega, by omega, by omega, by omega, by omega, by omega, by omega, fun x y hx1 hx2 hy1 hy2 => ?_, fun x y hx1 hx2 hy1 hy2 => ?_⟩
    · by_cases hlo : s = lo
      · rcases g6 with g6 | g6
        · omega
        · omega
      · have q := b3 (s - 1) (by omega) (by omega)
        have q : (!lt d[n - 1 - (s - 1)]! d[s - 1]!) = true := q
        rw [hp (s - 1) (by omega) (by omega), show n - 1 - (s - 1) = n - s by omega] at q
        have q1 : tl d[n - s]! d[s - 1]! = false := by simpa using q
        have q2 : tl d[s - 1]! d[x]! = false := SortedIn.le hS hL (by omega) (by omega) (by omega)
        have q3 : tl d[y]! d[n - s]! = false := SortedIn.le hS hR (by omega) (by omega) (by omega)
        exact hS.ntrans _ _ _ q3 (hS.ntrans _ _ _ q1 q2)
    · by_cases hhi : s = hi
      · rcases g7 with g7 | g7
        · omega
        · omega
      · have q := b4 s (by omega) (by omega)
        have q : (!lt d[n - 1 - s]! d[s]!) = false := q
        rw [hp s (by omega) (by omega)] at q
        have q1 : tl d[n - 1 - s]! d[s]! = true := by simpa using q
        have q1 := hS.asymmA q1
        have q2 : tl d[y]! d[s]! = false := SortedIn.le hS hL (by omega) (by omega) (by omega)
        have q3 : tl d[n - 1 - s]! d[x]! = false := SortedIn.le hS hR (by omega) (by omega) (by omega)
        exact hS.ntrans _ _ _ q2 (hS.ntrans _ _ _ q1 q3)
  by_cases hm : mid < m
  · rw [if_pos hm] at hs
    exact core (n - b) mid (by omega) (by omega) (by omega) (by omega) (by omega) (Or.inr (by omega)) (Or.inr rfl) (by omega) (by omega) hs
  · rw [if_neg hm] at hs
    exact core a m (by omega) (by omega) (by omega) (by omega) (by omega) (Or.inl rfl) (Or.inl rfl) (by omega) (by omega) hs

theorem symMerge_spec (lt tl : α → α → Bool) (hS : SWO tl) (f : Nat) : ∀ (d : Array α) (a m b : Nat), b - a ≤ f → a < m → m < b → b ≤ d.size → SortedIn tl a m d → SortedIn tl m b d →
    (∀ i j, a ≤ i → i < m → m ≤ j → j < b → lt d[j]! d[i]! = tl d[j]! d[i]!) → PermIn a b d (symMerge lt f d a m b) ∧ SortedIn tl a b (symMerge lt f d a m b) := by
  induction f with
  | zero => intro d a m b h; omega
  | succ f ih =>
    intro d a m b hf h1 h2 hb hL hR hA
    rw [symMerge]
    by_cases c1 : m - a = 1
    · rw [if_pos c1]
      have hp : ∀ h, m ≤ h → h < b → lt d[h]! d[a]! = tl d[h]! d[a]! := fun h g1 g2 => hA a h (by omega) (by omega) g1 g2
      obtain ⟨b1, b2, b3, b4⟩ := bs_spec (fun h => lt d[h]! d[a]!) (b - m) m b (Nat.le_refl _) (by omega) (by
        intro x y hx hxy hy hpy
        have hpy : lt d[y]! d[a]! = true := hpy
        show lt d[x]! d[a]! = true
        rw [hp y (by omega) hy] at hpy
        rw [hp x hx (by omega)]
        cases hq : tl d[x]! d[a]! with
        | true => rfl
        | false => rw [hS.ntrans _ _ _ (SortedIn.le hS hR (by omega) hxy hy) hq] at hpy; cases hpy)
      generalize bs (fun h => lt d[h]! d[a]!) m b = r at b1 b2 b3 b4
      refine ⟨permIn_mono d _ a r a b (Nat.le_refl _) b2 hb (rot_permIn d a (a + 1) r (by omega) (by omega) (by omega)), ?_⟩
      intro i j hi hij hj
      rw [rot_get d a (a + 1) r (by omega) (by omega), rot_get d a (a + 1) r (by omega) (by omega)]
      have lo : ∀ x, m ≤ x → x < r → tl d[a]! d[x]! = false := fun x g1 g2 => hS.asymmA (by rw [← hp x g1 (by omega)]; exact b3 x g1 g2)
      have up : ∀ x, r ≤ x → x < b → tl d[x]! d[a]! = false := fun x g1 g2 => by rw [← hp x (by omega) g2]; exact b4 x g1 g2
      by_cases hj1 : j < r - 1
      · rw [show rho a (a + 1) r i = i + 1 by unfold rho; rw [if_pos (by omega)]; omega, show rho a (a + 1) r j = j + 1 by unfold rho; rw [if_pos (by omega)]; omega]
        exact hR _ _ (by omega) (by omega) (by omega)
      · by_cases hj2 : j = r - 1
        · rw [show rho a (a + 1) r i = i + 1 by unfold rho; rw [if_pos (by omega)]; omega, show rho a (a + 1) r j = a by unfold rho; rw [if_neg (by omega), if_pos (by omega)]; omega]
          exact lo _ (by omega) (by omega)
        · rw [show rho a (a + 1) r j = j by unfold rho; rw [if_neg (by omega), if_neg (by omega)]]
          by_cases hi1 : i < r - 1
          · rw [show rho a (a + 1) r i = i + 1 by unfold rho; rw [if_pos (by omega)]; omega]
            exact SortedIn.le hS hR (by omega) (by omega) hj
          · by_cases hi2 : i = r - 1
            · rw [show rho a (a + 1) r i = a by unfold rho; rw [if_neg (by omega), if_pos (by omega)]; omega]
              exact up _ (by omega) hj
            · rw [show rho a (a + 1) r i = i by unfold rho; rw [if_neg (by omega), if_neg (by omega)]]
              exact hR _ _ (by omega) hij hj
    · rw [if_neg c1]
      by_cases c2 : b - m = 1
      · rw [if_pos c2]
        have hp : ∀ h, a ≤ h → h < m → (!lt d[m]! d[h]!) = !tl d[m]! d[h]! := fun h g1 g2 => by rw [hA h m g1 g2 (by omega) (by omega)]
        obtain ⟨b1, b2, b3, b4⟩ := bs_spec (fun h => !lt d[m]! d[h]!) (m - a) a m (Nat.le_refl _) (by omega) (by
          intro x y hx hxy hy hpy
          have hpy : (!lt d[m]! d[y]!) = true := hpy
          show (!lt d[m]! d[x]!) = true
          rw [hp y (by omega) hy] at hpy
          rw [hp x hx (by omega)]
          have q : tl d[m]! d[y]! = false := by simpa using hpy
          have := hS.ntrans _ _ _ q (SortedIn.le hS hL (by omega) hxy hy)
          simpa using this)
        generalize bs (fun h => !lt d[m]! d[h]!) a m = r at b1 b2 b3 b4
        have lo : ∀ x, a ≤ x → x < r → tl d[m]! d[x]! = false := fun x g1 g2 => by
          have q := b3 x g1 g2
          have q : (!lt d[m]! d[x]!) = true := q
          rw [hp x g1 (by omega)] at q; simpa using q
        have up : ∀ x, r ≤ x → x < m → tl d[x]! d[m]! = false := fun x g1 g2 => by
          have q := b4 x g1 g2
          have q : (!lt d[m]! d[x]!) = false := q
          rw [hp x (by omega) g2] at q; exact hS.asymmA (by simpa using q)
        refine ⟨permIn_mono d _ r (m + 1) a b b1 (by omega) hb (rot_permIn d r m (m + 1) (by omega) (by omega) (by omega)), ?_⟩
        intro i j hi hij hj
        rw [rot_get d r m (m + 1) (by omega) (by omega), rot_get d r m (m + 1) (by omega) (by omega)]
        by_cases hj1 : j < r
        · rw [show rho r m (m + 1) i = i by unfold rho; rw [if_neg (by omega), if_neg (by omega)], show rho r m (m + 1) j = j by unfold rho; rw [if_neg (by omega), if_neg (by omega)]]
          exact hL _ _ hi hij (by omega)
        · by_cases hj2 : j = r
          · rw [show rho r m (m + 1) i = i by unfold rho; rw [if_neg (by omega), if_neg (by omega)], show rho r m (m + 1) j = m by unfold rho; rw [if_pos (by omega)]; omega]
            exact lo _ hi (by omega)
          · rw [show rho r m (m + 1) j = j - 1 by unfold rho; rw [if_neg (by omega), if_pos (by omega)]; omega]
            by_cases hi1 : i < r
            · rw [show rho r m (m + 1) i = i by unfold rho; rw [if_neg (by omega), if_neg (by omega)]]
              exact hL _ _ hi (by omega) (by omega)
            · by_cases hi2 : i = r
              · rw [show rho r m (m + 1) i = m by unfold rho; rw [if_pos (by omega)]; omega]
                exact up _ (by omega) (by omega)
              · rw [show rho r m (m + 1) i = i - 1 by unfold rho; rw [if_neg (by omega), if_pos (by omega)]; omega]
                exact hL _ _ (by omega) (by omega) (by omega)
      · rw [if_neg c2]
        simp only []
        obtain ⟨mid, hmid⟩ : ∃ mid, mid = (a + b) / 2 := ⟨_, rfl⟩
        rw [← hmid]
        obtain ⟨n, hn⟩ : ∃ n, n = mid + m := ⟨_, rfl⟩
        rw [← hn]
        obtain ⟨s, hs⟩ : ∃ s, s = if mid < m then bs (fun c => !lt d[n - 1 - c]! d[c]!) (n - b) mid else bs (fun c => !lt d[n - 1 - c]! d[c]!) a m := ⟨_, rfl⟩
        rw [← hs]
        obtain ⟨g1, g2, g3, g4, g5, g6, g7, xi, xii⟩ := mid_spec lt tl hS d a m b h1 h2 hL hR hA mid n s hmid hn hs
        obtain ⟨e, he⟩ : ∃ e, e = n - s := ⟨_, rfl⟩
        rw [← he] at g4 g5 g6 xi xii ⊢
        have hse : e - m = mid - s := by omega
        obtain ⟨d1, hd1⟩ : ∃ d1, d1 = if s < m ∧ m < e then rot d s m e else d := ⟨_, rfl⟩
        rw [← hd1]
        have ed1 : d1 = rot d s m e := by
          rw [hd1]; split
          · rfl
          · by_cases q : s = m
            · subst q; exact (rot_left d s e (by omega) (by omega)).symm
            · have : m = e := by omega
              subst this; exact (rot_right d s m (by omega) (by omega)).symm
        have sz1 : d1.size = d.size := by rw [ed1]; simp
        have P1 : PermIn a b d d1 := by rw [ed1]; exact permIn_mono d _ s e a b g1 g5 hb (rot_permIn d s m e g2 g4 (by omega))
        have w1 : ∀ k, k < s → d1[k]! = d[k]! := fun k hk => by rw [ed1, rot_get d s m e g2 (by omega)]; congr 1; unfold rho; rw [if_neg (by omega), if_neg (by omega)]
        have w2 : ∀ k, s ≤ k → k < mid → d1[k]! = d[k - s + m]! := fun k hk hk2 => by rw [ed1, rot_get d s m e g2 (by omega)]; congr 1; unfold rho; rw [if_pos (by omega)]
        have w3 : ∀ k, mid ≤ k → k < e → d1[k]! = d[k - (e - m)]! := fun k hk hk2 => by rw [ed1, rot_get d s m e g2 (by omega)]; congr 1; unfold rho; rw [if_neg (by omega), if_pos (by omega)]
        have w4 : ∀ k, e ≤ k → d1[k]! = d[k]! := fun k hk => by rw [ed1, rot_get d s m e g2 (by omega)]; congr 1; unfold rho; rw [if_neg (by omega), if_neg (by omega)]
        have s1 : SortedIn tl a s d1 := sorted_congr (sorted_sub hL (Nat.le_refl _) g2) fun k _ hk => w1 k hk
        have s2 : SortedIn tl s mid d1 := fun i j hi hij hj => by rw [w2 i hi (by omega), w2 j (by omega) hj]; exact hR _ _ (by omega) (by omega) (by omega)
        have s3 : SortedIn tl mid e d1 := fun i j hi hij hj => by rw [w3 i hi (by omega), w3 j (by omega) hj]; exact hL _ _ (by omega) (by omega) (by omega)
        have s4 : SortedIn tl e b d1 := sorted_congr (sorted_sub hR g4 (Nat.le_refl _)) fun k hk _ => w4 k hk
        have X : ∀ x y, a ≤ x → x < mid → mid ≤ y → y < b → tl d1[y]! d1[x]! = false := fun x y hx1 hx2 hy1 hy2 => by
          by_cases q1 : x < s
          · rw [w1 x q1]
            by_cases q2 : y < e
            · rw [w3 y hy1 q2]; exact SortedIn.le hS hL hx1 (by omega) (by omega)
            · rw [w4 y (by omega)]; exact xi x y hx1 q1 (by omega) hy2
          · rw [w2 x (by omega) hx2]
            by_cases q2 : y < e
            · rw [w3 y hy1 q2]; exact xii _ _ (by omega) (by omega) (by omega) (by omega)
            · rw [w4 y (by omega)]; exact SortedIn.le hS hR (by omega) (by omega) hy2
        -- the first half
        obtain ⟨d2, hd2⟩ : ∃ d2, d2 = if a < s ∧ s < mid then symMerge lt f d1 a s mid else d1 := ⟨_, rfl⟩
        rw [← hd2]
        have M2 : PermIn a mid d1 d2 ∧ SortedIn tl a mid d2 := by
          rw [hd2]; split
          · rename_i q
            refine ih d1 a s mid (by omega) q.1 q.2 (by omega) s1 s2 fun i j hi1 hi2 hj1 hj2 => ?_
            rw [w1 i hi2, w2 j hj1 hj2]; exact hA _ _ hi1 (by omega) (by omega) (by omega)
          · rename_i q
            refine ⟨permIn_refl _ _ _, ?_⟩
            by_cases q1 : s = a
            · subst q1; exact s2
            · have : s = mid := by omega
              subst this; exact s1
        obtain ⟨P2, S2⟩ := M2
        have o2 : ∀ k, mid ≤ k → d2[k]! = d1[k]! := fun k hk => P2.2.1 k (Or.inr hk)
        have sz2 : d2.size = d1.size := P2.1
        -- the second half
        obtain ⟨d3, hd3⟩ : ∃ d3, d3 = if mid < e ∧ e < b then symMerge lt f d2 mid e b else d2 := ⟨_, rfl⟩
        rw [← hd3]
        have M3 : PermIn mid b d2 d3 ∧ SortedIn tl mid b d3 := by
          rw [hd3]; split
          · rename_i q
            refine ih d2 mid e b (by omega) q.1 q.2 (by omega) (sorted_congr s3 fun k hk _ => o2 k hk) (sorted_congr s4 fun k hk _ => o2 k (by omega)) fun i j hi1 hi2 hj1 hj2 => ?_
            rw [o2 i hi1, o2 j (by omega), w3 i hi1 hi2, w4 j hj1]; exact hA _ _ (by omega) (by omega) (by omega) hj2
          · rename_i q
            refine ⟨permIn_refl _ _ _, ?_⟩
            by_cases q1 : mid = e
            · subst q1; exact sorted_congr s4 fun k hk _ => o2 k hk
            · have : e = b := by omega
              subst this; exact sorted_congr s3 fun k hk _ => o2 k hk
        obtain ⟨P3, S3⟩ := M3
        have o3 : ∀ k, k < mid → d3[k]! = d2[k]! := fun k hk => P3.2.1 k (Or.inl hk)
        have X2 : ∀ x, a ≤ x → x < mid → ∀ y, mid ≤ y → y < b → tl d2[y]! d2[x]! = false := by
          have := permIn_all d1 d2 a mid (fun v => ∀ y, mid ≤ y → y < b → tl d1[y]! v = false) (by omega) P2 (fun i hi1 hi2 y hy1 hy2 => X i y hi1 hi2 hy1 hy2)
          intro x hx1 hx2 y hy1 hy2
          rw [o2 y hy1]; exact this x hx1 hx2 y hy1 hy2
        have X3 : ∀ x y, a ≤ x → x < mid → mid ≤ y → y < b → tl d3[y]! d3[x]! = false := by
          intro x y hx1 hx2 hy1 hy2
          rw [o3 x hx2]
          exact permIn_all d2 d3 mid b (fun v => tl v d2[x]! = false) (by omega) P3 (fun i hi1 hi2 => X2 x hx1 hx2 i hi1 hi2) y hy1 hy2
        refine ⟨permIn_trans _ _ _ _ _ P1 (permIn_trans _ _ _ _ _ (permIn_mono d1 d2 a mid a b (Nat.le_refl _) (by omega) (by omega) P2) (permIn_mono d2 d3 mid b a b (by omega) (Nat.le_refl _) (by omega) P3)), ?_⟩
        exact glue (sorted_congr S2 fun k _ hk => o3 k hk) S3 X3


/-! ### insertion sort compares a later one with earlier ones alone -/
theorem insInner_permIn (lt : α → α → Bool) (a : Nat) : ∀ (j : Nat) (d : Array α), j < d.size → a ≤ j → PermIn a (j + 1) d (insInner lt a j d) := by
  intro j
  induction j with
  | zero => intro d _ _; exact permIn_refl _ _ _
  | succ j ih =>
    intro d hj haj
    rw [insInner]
    split
    · rename_i h
      have hja : a < j + 1 := by simp at h; omega
      exact permIn_trans _ _ _ _ _ (swp_permIn d a (j + 1 + 1) (j + 1) j (by omega) (by omega) (by omega) (by omega) (by omega))
        (permIn_mono _ _ a (j + 1) a (j + 1 + 1) (Nat.le_refl _) (by omega) (by rw [size_swp]; omega) (ih (swp d (j + 1) j) (by rw [size_swp]; omega) (by omega)))
    · exact permIn_refl _ _ _
theorem insInner_congr (lt tl : α → α → Bool) (a : Nat) : ∀ (j : Nat) (d : Array α), j < d.size → (∀ p, a ≤ p → p < j → lt d[j]! d[p]! = tl d[j]! d[p]!) → insInner lt a j d = insInner tl a j d := by
  intro j
  induction j with
  | zero => intro d _ _; rfl
  | succ j ih =>
    intro d hj h
    rw [insInner, insInner]
    by_cases ha : a < j + 1
    · rw [h j (by omega) (by omega)]
      split
      · exact ih _ (by rw [size_swp]; omega) fun p hp1 hp2 => by
          rw [swp_right d (j + 1) j (by omega), swp_other d (j + 1) j p (by omega) (by omega)]; exact h p hp1 (by omega)
      · rfl
    · rw [if_neg (by simp; omega), if_neg (by simp; omega)]
theorem insOuter_stop (lt : α → α → Bool) (a b i : Nat) (d : Array α) (h : ¬ i < b) : insOuter lt a b i d = d := by rw [insOuter, if_neg h]
theorem insOuter_go (lt : α → α → Bool) (a b i : Nat) (d : Array α) (h : i < b) : insOuter lt a b i d = insOuter lt a b (i + 1) (insInner lt a i d) := by rw [insOuter, if_pos h]
theorem insOuter_congr (lt tl : α → α → Bool) (a b : Nat) (n : Nat) : ∀ (i : Nat) (d : Array α), b - i ≤ n → a ≤ i → b ≤ d.size → (∀ q p, i ≤ q → q < b → a ≤ p → p < q → lt d[q]! d[p]! = tl d[q]! d[p]!) → insOuter lt a b i d = insOuter tl a b i d := by
  induction n with
  | zero => intro i d hn _ _ _; rw [insOuter_stop _ _ _ _ _ (by omega), insOuter_stop _ _ _ _ _ (by omega)]
  | succ n ih =>
    intro i d hn hai hb h
    by_cases hib : i < b
    · rw [insOuter_go _ _ _ _ _ hib, insOuter_go _ _ _ _ _ hib, insInner_congr lt tl a i d (by omega) (fun p hp1 hp2 => h i p (Nat.le_refl _) hib hp1 hp2)]
      have P := insInner_permIn tl a i d (by omega) hai
      refine ih (i + 1) _ (by omega) (by omega) (by rw [P.1]; exact hb) fun q p hq1 hq2 hp1 hp2 => ?_
      rw [P.2.1 q (Or.inr hq1)]
      by_cases hpi : p < i + 1
      · exact permIn_all d _ a (i + 1) (fun v => lt d[q]! v = tl d[q]! v) (by omega) P (fun k hk1 hk2 => h q k (by omega) hq2 hk1 (by omega)) p hp1 hpi
      · rw [P.2.1 p (Or.inr (by omega))]; exact h q p (by omega) hq2 hp1 hp2
    · rw [insOuter_stop _ _ _ _ _ hib, insOuter_stop _ _ _ _ _ hib]
theorem insertionSort_congr (lt tl : α → α → Bool) (d : Array α) (a b : Nat) (hb : b ≤ d.size) (h : ∀ q p, q < b → a ≤ p → p < q → lt d[q]! d[p]! = tl d[q]! d[p]!) : insertionSort lt d a b = insertionSort tl d a b :=
  insOuter_congr lt tl a b (b - (a + 1)) (a + 1) d (Nat.le_refl _) (by omega) hb fun q p _ h2 h3 h4 => h q p h2 h3 h4

/-! ### blocks, told by the places where one ends -/
/-- no cut between two places: the later one is not less; a cut between them: 'less' of the later one and the earlier one is as tl says -/
structure Blk (lt tl : α → α → Bool) (C : Nat → Prop) (n : Nat) (d : Array α) : Prop where
  S : ∀ p q, p < q → q < n → (∀ c, C c → p < c → q < c) → tl d[q]! d[p]! = false
  A : ∀ p q c, C c → p < c → c ≤ q → q < n → lt d[q]! d[p]! = tl d[q]! d[p]!
theorem Blk.congr {lt tl : α → α → Bool} {C D : Nat → Prop} {n : Nat} {d : Array α} (h : Blk lt tl C n d) (he : ∀ c, 0 < c → c < n → (C c ↔ D c)) : Blk lt tl D n d :=
  ⟨fun p q hpq hq hc => h.S p q hpq hq fun c g1 g2 => by
      by_cases hn : c < n
      · exact hc c ((he c (by omega) hn).1 g1) g2
      · omega,
   fun p q c g1 g2 g3 g4 => h.A p q c ((he c (by omega) (by omega)).2 g1) g2 g3 g4⟩
/-- a piece between two cuts is sorted -/
theorem Blk.step {lt tl : α → α → Bool} {C : Nat → Prop} {n : Nat} {d d' : Array α} (h : Blk lt tl C n d) (a b : Nat) (_hab : a ≤ b) (hbn : b ≤ n) (hn : n ≤ d.size) (ha : a = 0 ∨ C a) (hb : b < n → C b)
    (P : PermIn a b d d') (hs : SortedIn tl a b d') : Blk lt tl (fun c => C c ∧ ¬ (a < c ∧ c < b)) n d' := by
  have out : ∀ k, k < a ∨ b ≤ k → d'[k]! = d[k]! := P.2.1
  constructor
  · intro p q hpq hq hc
    by_cases h1 : a ≤ p ∧ q < b
    · exact hs p q h1.1 hpq h1.2
    · by_cases h2 : p < a ∧ a ≤ q
      · have := hc a ⟨ha.resolve_left (by omega), by omega⟩ h2.1; omega
      · by_cases h3 : p < b ∧ b ≤ q
        · have := hc b ⟨hb (by omega), by omega⟩ h3.1; omega
        · rw [out p (by omega), out q (by omega)]
          refine h.S p q hpq hq fun c g1 g2 => ?_
          by_cases h4 : a < c ∧ c < b
          · omega
          · exact hc c ⟨g1, h4⟩ g2
  · intro p q c ⟨g1, g1'⟩ g2 g3 g4
    by_cases hp : a ≤ p ∧ p < b
    · by_cases hq : q < b
      · omega
      · rw [out q (by omega)]
        exact permIn_all d d' a b (fun v => lt d[q]! v = tl d[q]! v) (by omega) P (fun i hi1 hi2 => h.A i q b (hb (by omega)) hi2 (by omega) g4) p hp.1 hp.2
    · by_cases hq : a ≤ q ∧ q < b
      · rw [out p (by omega)]
        exact permIn_all d d' a b (fun v => lt v d[p]! = tl v d[p]!) (by omega) P (fun i hi1 hi2 => h.A p i a (ha.resolve_left (by omega)) (by omega) hi1 (by omega)) q hq.1 hq.2
      · rw [out p (by omega), out q (by omega)]; exact h.A p q c g1 g2 g3 g4

/-! ### stableCmpFunc -/
def insBlocks (lt : α → α → Bool) (n : Nat) : Nat → Array α → Nat → Array α
  | 0, d, _ => d
  | f + 1, d, a => if a + 20 ≤ n then insBlocks lt n f (insertionSort lt d a (a + 20)) (a + 20) else insertionSort lt d a n
def mergePass (lt : α → α → Bool) (n z : Nat) : Nat → Array α → Nat → Array α
  | 0, d, _ => d
  | f + 1, d, a => if a + 2 * z ≤ n then mergePass lt n z f (symMerge lt (2 * z) d a (a + z) (a + 2 * z)) (a + 2 * z) else if a + z < n then symMerge lt (n - a) d a (a + z) n else d
def stableLoop (lt : α → α → Bool) (n : Nat) : Nat → Array α → Nat → Array α
  | 0, d, _ => d
  | f + 1, d, z => if z < n then stableLoop lt n f (mergePass lt n z (n + 1) d 0) (2 * z) else d
def stable (lt : α → α → Bool) (d : Array α) : Array α := stableLoop lt d.size (d.size + 1) (insBlocks lt d.size (d.size + 1) d 0) 20

theorem insBlocks_spec (lt tl : α → α → Bool) (hS : SWO tl) (n : Nat) : ∀ (f : Nat) (d : Array α) (a : Nat), n - a < f → a ≤ n → n ≤ d.size → 20 ∣ a → Blk lt tl (fun c => c ≤ a → 20 ∣ c) n d →
    PermIn 0 n d (insBlocks lt n f d a) ∧ Blk lt tl (fun c => 20 ∣ c) n (insBlocks lt n f d a) := by
  intro f
  induction f with
  | zero => intro d a h; omega
  | succ f ih =>
    intro d a hf han hn h20 hB
    have cut : ∀ b, a ≤ b → b ≤ n → insertionSort lt d a b = insertionSort tl d a b ∧ PermIn a b d (insertionSort tl d a b) ∧ SortedIn tl a b (insertionSort tl d a b) := fun b hb1 hb2 => by
      have h2 := insertionSort_holds (lt := tl) hS d a b hb1 (by omega)
      exact ⟨insertionSort_congr lt tl d a b (by omega) (fun q p hq hp hpq => hB.A p q q (by omega) hpq (Nat.le_refl _) (by omega)), h2.1, h2.2⟩
    rw [insBlocks]
    split
    · rename_i hle
      obtain ⟨e, P, Q⟩ := cut (a + 20) (by omega) hle
      rw [e]
      have B2 := hB.step a (a + 20) (by omega) hle hn (Or.inr (fun _ => h20)) (fun _ => by omega) P Q
      have B3 : Blk lt tl (fun c => c ≤ a + 20 → 20 ∣ c) n (insertionSort tl d a (a + 20)) := B2.congr fun c _ _ => by omega
      obtain ⟨r1, r2⟩ := ih _ (a + 20) (by omega) hle (by rw [P.1]; exact hn) (by omega) B3
      exact ⟨permIn_trans _ _ _ _ _ (permIn_mono _ _ a (a + 20) 0 n (Nat.zero_le _) hle hn P) r1, r2⟩
    · obtain ⟨e, P, Q⟩ := cut n han (Nat.le_refl _)
      rw [e]
      have B2 := hB.step a n han (Nat.le_refl _) hn (Or.inr (fun _ => h20)) (fun h => by omega) P Q
      exact ⟨permIn_mono _ _ a n 0 n (Nat.zero_le _) (Nat.le_refl _) hn P, B2.congr fun c _ _ => by omega⟩

/-- the multiples of z behind a multiple of 2z -/
theorem mult_next {z a c : Nat} (hz : 0 < z) (ha : 2 * z ∣ a) (hc : z ∣ c) (h1 : a < c) (h2 : c ≤ a + 2 * z) : c = a + z ∨ c = a + 2 * z := by
  obtain ⟨k, rfl⟩ := ha
  obtain ⟨t, rfl⟩ := hc
  have g1 : z * (2 * k) < z * t := by rw [← Nat.mul_assoc, Nat.mul_comm z 2]; exact h1
  have g2 : z * t ≤ z * (2 * k + 2) := by rw [Nat.mul_add, ← Nat.mul_assoc, Nat.mul_comm z 2]; exact h2
  have g3 := Nat.lt_of_mul_lt_mul_left g1
  have g4 := Nat.le_of_mul_le_mul_left g2 hz
  have : t = 2 * k + 1 ∨ t = 2 * k + 2 := by omega
  rcases this with rfl | rfl
  · left; rw [Nat.mul_add, ← Nat.mul_assoc, Nat.mul_comm z 2, Nat.mul_one]
  · right; rw [Nat.mul_add, ← Nat.mul_assoc, Nat.mul_comm z 2]
theorem not_mult_mid {z a : Nat} (hz : 0 < z) (ha : 2 * z ∣ a) : ¬ 2 * z ∣ a + z := by
  intro h
  have h2 : 2 * z ∣ z := (Nat.dvd_add_right ha).1 h
  have := Nat.le_of_dvd hz h2; omega

theorem mergePass_spec (lt tl : α → α → Bool) (hS : SWO tl) (n z : Nat) (hz : 0 < z) : ∀ (f : Nat) (d : Array α) (a : Nat), n - a < f → a ≤ n → n ≤ d.size → 2 * z ∣ a → Blk lt tl (fun c => z ∣ c ∧ (c ≤ a → 2 * z ∣ c)) n d →
    PermIn 0 n d (mergePass lt n z f d a) ∧ Blk lt tl (fun c => 2 * z ∣ c) n (mergePass lt n z f d a) := by
  intro f
  induction f with
  | zero => intro d a h; omega
  | succ f ih =>
    intro d a hf han hn hza hB
    have zz : z ∣ 2 * z := Nat.dvd_mul_left z 2
    have za : z ∣ a := Nat.dvd_trans zz hza
    have zaz : z ∣ a + z := Nat.dvd_add za (Nat.dvd_refl z)
    have zazz : z ∣ a + 2 * z := Nat.dvd_add za zz
    have zzazz : 2 * z ∣ a + 2 * z := Nat.dvd_add hza (Nat.dvd_refl _)
    have noc : ∀ c p q, z ∣ c → (c ≤ a → 2 * z ∣ c) → a ≤ p → p < c → c ≤ q → q < a + 2 * z → c = a + z := fun c p q g1 _ g3 g4 g5 g6 => by
      rcases mult_next hz hza g1 (by omega) (by omega) with e | e
      · exact e
      · omega
    -- what a merge of [a, a + z) and [a + z, b) leaves
    have cut : ∀ b, a + z < b → b ≤ n → b ≤ a + 2 * z → PermIn a b d (symMerge lt (b - a) d a (a + z) b) ∧ SortedIn tl a b (symMerge lt (b - a) d a (a + z) b) := fun b hb1 hb2 hb3 => by
      refine symMerge_spec lt tl hS (b - a) d a (a + z) b (Nat.le_refl _) (by omega) hb1 (by omega) (fun i j hi hij hj => ?_) (fun i j hi hij hj => ?_) (fun i j hi1 hi2 hj1 hj2 => ?_)
      · exact hB.S i j hij (by omega) fun c ⟨g1, g2⟩ g3 => by
          by_cases hcj : c ≤ j
          · have := noc c i j g1 g2 hi g3 hcj (by omega); omega
          · omega
      · exact hB.S i j hij (by omega) fun c ⟨g1, g2⟩ g3 => by
          by_cases hcj : c ≤ j
          · have := noc c i j g1 g2 (by omega) g3 hcj (by omega); omega
          · omega
      · exact hB.A i j (a + z) ⟨zaz, fun h => by omega⟩ hi2 hj1 (by omega)
    have back : ∀ c, 2 * z ∣ c → z ∣ c := fun c h => Nat.dvd_trans zz h
    rw [mergePass]
    split
    · rename_i hle
      obtain ⟨P, Q⟩ := cut (a + 2 * z) (by omega) hle (Nat.le_refl _)
      rw [show a + 2 * z - a = 2 * z by omega] at P Q
      have B2 := hB.step a (a + 2 * z) (by omega) hle hn (Or.inr ⟨za, fun _ => hza⟩) (fun _ => ⟨zazz, fun h => zzazz⟩) P Q
      have B3 : Blk lt tl (fun c => z ∣ c ∧ (c ≤ a + 2 * z → 2 * z ∣ c)) n (symMerge lt (2 * z) d a (a + z) (a + 2 * z)) := B2.congr fun c _ _ => by
        constructor
        · rintro ⟨⟨g1, g2⟩, g3⟩
          refine ⟨g1, fun h => ?_⟩
          by_cases hca : c ≤ a
          · exact g2 hca
          · rcases mult_next hz hza g1 (by omega) h with e | e
            · omega
            · rw [e]; exact zzazz
        · rintro ⟨g1, g2⟩
          refine ⟨⟨g1, fun h => g2 (by omega)⟩, fun ⟨h1, h2⟩ => ?_⟩
          rcases mult_next hz hza g1 h1 (by omega) with e | e
          · have := g2 (by omega); rw [e] at this; exact not_mult_mid hz hza this
          · omega
      obtain ⟨r1, r2⟩ := ih _ (a + 2 * z) (by omega) hle (by rw [P.1]; exact hn) zzazz B3
      exact ⟨permIn_trans _ _ _ _ _ (permIn_mono _ _ a (a + 2 * z) 0 n (Nat.zero_le _) hle hn P) r1, r2⟩
    · rename_i hle
      split
      · rename_i hlt
        obtain ⟨P, Q⟩ := cut n hlt (Nat.le_refl _) (by omega)
        have B2 := hB.step a n han (Nat.le_refl _) hn (Or.inr ⟨za, fun _ => hza⟩) (fun h => by omega) P Q
        refine ⟨permIn_mono _ _ a n 0 n (Nat.zero_le _) (Nat.le_refl _) hn P, B2.congr fun c _ hcn => ?_⟩
        constructor
        · rintro ⟨⟨g1, g2⟩, g3⟩
          exact g2 (by omega)
        · intro g
          refine ⟨⟨back c g, fun _ => g⟩, fun ⟨h1, h2⟩ => ?_⟩
          rcases mult_next hz hza (back c g) h1 (by omega) with e | e
          · rw [e] at g; exact not_mult_mid hz hza g
          · omega
      · rename_i hge
        refine ⟨permIn_refl _ _ _, hB.congr fun c _ hcn => ?_⟩
        constructor
        · rintro ⟨g1, g2⟩
          by_cases hca : c ≤ a
          · exact g2 hca
          · rcases mult_next hz hza g1 (by omega) (by omega) with e | e <;> omega
        · intro g; exact ⟨back c g, fun _ => g⟩

theorem stableLoop_spec (lt tl : α → α → Bool) (hS : SWO tl) (n : Nat) : ∀ (f : Nat) (d : Array α) (z : Nat), n < f + z → 0 < z → n ≤ d.size → Blk lt tl (fun c => z ∣ c) n d →
    PermIn 0 n d (stableLoop lt n f d z) ∧ SortedIn tl 0 n (stableLoop lt n f d z) := by
  have fin : ∀ (d : Array α) (z : Nat), n ≤ z → Blk lt tl (fun c => z ∣ c) n d → SortedIn tl 0 n d := fun d z hz hB i j _ hij hj =>
    hB.S i j hij hj fun c g1 g2 => by have := Nat.le_of_dvd (by omega) g1; omega
  intro f
  induction f with
  | zero => intro d z h1 h2 hn hB; exact ⟨permIn_refl _ _ _, fin d z (by omega) hB⟩
  | succ f ih =>
    intro d z h1 h2 hn hB
    rw [stableLoop]
    split
    · rename_i hlt
      have B0 : Blk lt tl (fun c => z ∣ c ∧ (c ≤ 0 → 2 * z ∣ c)) n d := hB.congr fun c hc _ => ⟨fun g => ⟨g, fun h => by omega⟩, fun g => g.1⟩
      obtain ⟨P, Q⟩ := mergePass_spec lt tl hS n z h2 (n + 1) d 0 (by omega) (Nat.zero_le _) hn (Nat.dvd_zero _) B0
      obtain ⟨r1, r2⟩ := ih _ (2 * z) (by omega) (by omega) (by rw [P.1]; exact hn) Q
      exact ⟨permIn_trans _ _ _ _ _ P r1, r2⟩
    · exact ⟨permIn_refl _ _ _, fin d z (by omega) hB⟩

/-- 'less' on the first, then on the place -/
def lexl (lt : α → α → Bool) (x y : α × Nat) : Bool := lt x.1 y.1 || (!lt y.1 x.1 && decide (x.2 < y.2))
omit [Inhabited α] in
theorem swo_lexl {lt : α → α → Bool} (hS : SWO lt) : SWO (lexl lt) where
  irrefl x := by simp [lexl, hS.irrefl]
  trans x y z h1 h2 := by
    simp only [lexl, Bool.or_eq_true, Bool.and_eq_true, Bool.not_eq_true', decide_eq_true_eq] at h1 h2 ⊢
    rcases h1 with h1 | ⟨h1, h1'⟩
    · rcases h2 with h2 | ⟨h2, h2'⟩
      · exact Or.inl (hS.trans _ _ _ h1 h2)
      · left
        cases h : lt x.1 z.1 with
        | true => rfl
        | false => rw [hS.ntrans _ _ _ h h2] at h1; cases h1
    · rcases h2 with h2 | ⟨h2, h2'⟩
      · left
        cases h : lt x.1 z.1 with
        | true => rfl
        | false => rw [hS.ntrans _ _ _ h1 h] at h2; cases h2
      · exact Or.inr ⟨hS.ntrans _ _ _ h2 h1, by omega⟩
  ntrans x y z h1 h2 := by
    simp only [lexl, Bool.or_eq_false_iff, Bool.and_eq_false_iff, Bool.not_eq_false', decide_eq_false_iff_not] at h1 h2 ⊢
    refine ⟨hS.ntrans _ _ _ h1.1 h2.1, ?_⟩
    rcases h1.2 with g1 | g1
    · left
      cases h : lt z.1 x.1 with
      | true => rfl
      | false => rw [hS.ntrans _ _ _ h2.1 h] at g1; cases g1
    · rcases h2.2 with g2 | g2
      · left
        cases h : lt z.1 x.1 with
        | true => rfl
        | false => rw [hS.ntrans _ _ _ h h1.1] at g2; cases g2
      · right; omega

/-- the elements with their places -/
def tagged (l : List α) : Array (α × Nat) := l.zipIdx.toArray
omit [Inhabited α] in
theorem tagged_size (l : List α) : (tagged l).size = l.length := by simp [tagged]
theorem tagged_get (l : List α) (k : Nat) (h : k < l.length) : (tagged l)[k]! = (l[k], k) := by
  rw [getElem!_pos _ k (by rw [tagged_size]; exact h)]; simp [tagged]

/-- THE STABLE SORT LEAVES core's mergeSort. -/
theorem stable_both (lt : α → α → Bool) (hS : SWO lt) (l : List α) :
    (stable (fun x y : α × Nat => lt x.1 y.1) (tagged l)).toList.Perm l.zipIdx ∧ (stable (fun x y : α × Nat => lt x.1 y.1) (tagged l)).toList.map (·.1) = l.mergeSort (fun x y => !lt y x) := by
  have hT := swo_lexl hS
  have hz := tagged_size l
  have ag : Blk (fun x y : α × Nat => lt x.1 y.1) (lexl lt) (fun c => c ≤ 0 → 20 ∣ c) (tagged l).size (tagged l) := by
    constructor
    · intro p q hpq hq hc
      have := hc q (by omega) hpq; omega
    · intro p q c _ h2 h3 h4
      rw [tagged_get l q (by omega), tagged_get l p (by omega)]
      simp only [lexl]
      rw [show decide (q < p) = false from decide_eq_false (by omega)]; simp
  obtain ⟨P1, B1⟩ := insBlocks_spec _ (lexl lt) hT (tagged l).size ((tagged l).size + 1) (tagged l) 0 (by omega) (Nat.zero_le _) (Nat.le_refl _) (by omega) ag
  obtain ⟨P2, S2⟩ := stableLoop_spec _ (lexl lt) hT (tagged l).size ((tagged l).size + 1) _ 20 (by omega) (by omega) (by rw [P1.1]; exact Nat.le_refl _) B1
  have P := permIn_trans _ _ _ _ _ P1 P2
  have es : stable (fun x y : α × Nat => lt x.1 y.1) (tagged l) = stableLoop (fun x y : α × Nat => lt x.1 y.1) (tagged l).size ((tagged l).size + 1) (insBlocks (fun x y : α × Nat => lt x.1 y.1) (tagged l).size ((tagged l).size + 1) (tagged l) 0) 20 := rfl
  rw [← es] at P S2
  generalize stable (fun x y : α × Nat => lt x.1 y.1) (tagged l) = r at P S2
  have hperm : r.toList.Perm l.zipIdx := by
    have := P.2.2
    have e1 : r.extract 0 (tagged l).size = r := by rw [← P.1]; simp
    have e2 : (tagged l).extract 0 (tagged l).size = tagged l := by simp
    rw [e1, e2] at this
    simpa [tagged] using this
  have hpw : r.toList.Pairwise (fun a b => List.zipIdxLE (fun x y => !lt y x) a b = true) := by
    rw [List.pairwise_iff_getElem]
    intro i j hi hj hij
    have hi' : i < r.size := by simpa using hi
    have hj' : j < r.size := by simpa using hj
    have q := S2 i j (Nat.zero_le _) hij (by rw [← P.1]; exact hj')
    rw [getElem!_pos r i hi', getElem!_pos r j hj'] at q
    simp only [Array.getElem_toList]
    generalize r[i] = x at q ⊢
    generalize r[j] = y at q ⊢
    simp only [lexl, Bool.or_eq_false_iff, Bool.and_eq_false_iff, Bool.not_eq_false', decide_eq_false_iff_not] at q
    unfold List.zipIdxLE
    simp only []
    rw [q.1]
    rcases q.2 with q2 | q2
    · simp [q2]
    · by_cases h : lt x.1 y.1 = true
      · simp [h]
      · simp only [Bool.not_eq_true] at h; simp [h]; omega
  have tr : ∀ a b c : α, (!lt b a) = true → (!lt c b) = true → (!lt c a) = true := fun a b c h1 h2 => by
    simp only [Bool.not_eq_true'] at h1 h2 ⊢; exact hS.ntrans _ _ _ h2 h1
  have tt : ∀ a b : α, ((!lt b a) || (!lt a b)) = true := fun a b => by
    cases h : lt b a with
    | false => rfl
    | true => rw [hS.asymmA h]; rfl
  have hm : r.toList = l.zipIdx.mergeSort (List.zipIdxLE (fun x y => !lt y x)) := by
    refine List.Perm.eq_of_pairwise (le := fun a b => List.zipIdxLE (fun x y => !lt y x) a b = true) ?_ hpw (List.pairwise_mergeSort ?_ ?_ _) (hperm.trans (List.mergeSort_perm _ _).symm)
    · rintro ⟨x, i⟩ ⟨y, j⟩ ha hb h1 h2
      have ha := hperm.mem_iff.1 ha
      have hb := (List.mergeSort_perm _ _).mem_iff.1 hb
      rw [List.mem_zipIdx_iff_getElem?] at ha hb
      have hij : i = j := by
        unfold List.zipIdxLE at h1 h2
        cases g1 : lt y x <;> cases g2 : lt x y <;> simp [g1, g2] at h1 h2
        omega
      subst hij
      simp only at ha hb
      rw [ha] at hb; injection hb with hb; rw [hb]
    · exact fun a b c => List.zipIdxLE_trans tr a b c
    · exact fun a b => List.zipIdxLE_total tt a b
  refine ⟨hperm, ?_⟩
  rw [hm]
  exact List.mergeSort_zipIdx
theorem stable_merge (lt : α → α → Bool) (hS : SWO lt) (l : List α) :
    (stable (fun x y : α × Nat => lt x.1 y.1) (tagged l)).toList.map (·.1) = l.mergeSort (fun x y => !lt y x) := (stable_both lt hS l).2

end
end Go.Proofs.Ytjladdjpnicldaa
