/- Plain law: where places come to stand behind a canonical delta, operation by operation; bounds; what of a piece is kept. No program. -/
import Derived.Test.YtjladdjpnicldaaGHoldsOk
namespace Go.Proofs.Ytjladdjpnicldaa.PA
open Go.RowKit Go.Proofs.YtjladdjpnicldaaW.PrintWords Go.Proofs.YtjladdjpnicldaaW.PrintLast Go.Proofs.YtjladdjpnicldaaW.PrintMore

def dropC (c : Option S99) (a b : Int) : S99 := match c with | none => ⟨a, b, ⟨#[]⟩⟩ | some c => ⟨c.f0, b, c.f2⟩
/-- the changes, from a place on; c: the one that is open -/
def chg : List S56 → Int → Option S99 → List S99
  | [], _, c => c.toList
  | o :: l, a, c =>
    if o.f0 = 2 then c.toList ++ chg l a (some ⟨a, a, o.f2⟩)
    else if o.f0 = 1 then c.toList ++ chg l (a + o.f1) none
    else chg l (a + o.f1) (some (dropC c a (a + o.f1)))
theorem chg_fold : ∀ (l : List S56) (a : Int) (c : Option S99) (xs : List S99), (l.foldl stepC (a, c.isSome, xs ++ c.toList)).2.2 = xs ++ chg l a c
  | [], a, c, xs => rfl
  | o :: l, a, c, xs => by
    rw [List.foldl_cons, chg]
    by_cases h2 : o.f0 = 2
    · have e : stepC (a, c.isSome, xs ++ c.toList) o = (a, (some (⟨a, a, o.f2⟩ : S99)).isSome, (xs ++ c.toList) ++ (some (⟨a, a, o.f2⟩ : S99)).toList) := by simp [stepC, h2]
      rw [e, if_pos h2, chg_fold l a _ _, List.append_assoc]
    · by_cases h1 : o.f0 = 1
      · have e : stepC (a, c.isSome, xs ++ c.toList) o = (a + o.f1, (none : Option S99).isSome, (xs ++ c.toList) ++ (none : Option S99).toList) := by simp [stepC, h1]
        rw [e, if_neg h2, if_pos h1, chg_fold l _ _ _, List.append_assoc]
      · rw [if_neg h2, if_neg h1]
        cases c with
        | none =>
          have e : stepC (a, (none : Option S99).isSome, xs ++ (none : Option S99).toList) o = (a + o.f1, (some (⟨a, a + o.f1, ⟨#[]⟩⟩ : S99)).isSome, xs ++ (some (⟨a, a + o.f1, ⟨#[]⟩⟩ : S99)).toList) := by simp [stepC, h1, h2]
          rw [e, chg_fold l _ _ _]; rfl
        | some c =>
          have e : stepC (a, (some c).isSome, xs ++ (some c).toList) o = (a + o.f1, (some (⟨c.f0, a + o.f1, c.f2⟩ : S99)).isSome, xs ++ (some (⟨c.f0, a + o.f1, c.f2⟩ : S99)).toList) := by simp [stepC, h1, h2, setHi_snoc]
          rw [e, chg_fold l _ _ _]; rfl
theorem changes_chg (l : List S56) : changesV l = chg l 0 none := by
  have := chg_fold l 0 none []
  simpa [changesV, stateC] using this
theorem chg_head : ∀ (l : List S56) (a : Int) (c : S99), ∃ c' rest, chg l a (some c) = c' :: rest ∧ c'.f0 = c.f0
  | [], a, c => ⟨c, [], rfl, rfl⟩
  | o :: l, a, c => by
    rw [chg]
    by_cases h2 : o.f0 = 2
    · rw [if_pos h2]; exact ⟨c, _, rfl, rfl⟩
    · rw [if_neg h2]
      by_cases h1 : o.f0 = 1
      · rw [if_pos h1]; exact ⟨c, _, rfl, rfl⟩
      · rw [if_neg h1]
        exact chg_head l (a + o.f1) ⟨c.f0, a + o.f1, c.f2⟩
theorem placeL_head {c : S99} {l : List S99} {p g n : Int} (h : p < c.f0) : placeL (c :: l) p g n = p + n := by rw [placeL, if_pos h]
theorem chg_far : ∀ (l : List S56) (q : Option S56) (a p g n : Int), opsV q l = true → p < a → placeL (chg l a none) p g n = p + n
  | [], q, a, p, g, n, _, _ => rfl
  | o :: l, q, a, p, g, n, ho, hp => by
    unfold opsV at ho
    rw [Bool.and_eq_true, Bool.and_eq_true] at ho
    rw [chg]
    by_cases h2 : o.f0 = 2
    · rw [if_pos h2]
      obtain ⟨c', rest, e, e0⟩ := chg_head l a ⟨a, a, o.f2⟩
      show placeL (chg l a (some ⟨a, a, o.f2⟩)) p g n = _
      rw [e]
      exact placeL_head (by rw [e0]; exact hp)
    · rw [if_neg h2]
      by_cases h1 : o.f0 = 1
      · rw [if_pos h1]
        have hN : 1 ≤ o.f1 := by
          rcases opV_cases ho.1.1 with ⟨_, k, _⟩ | ⟨_, k, _⟩ | ⟨k, _⟩ <;> omega
        exact chg_far l (some o) (a + o.f1) p g n ho.2 (by omega)
      · rw [if_neg h1]
        obtain ⟨c', rest, e, e0⟩ := chg_head l (a + o.f1) ⟨a, a + o.f1, ⟨#[]⟩⟩
        show placeL (chg l (a + o.f1) (some ⟨a, a + o.f1, ⟨#[]⟩⟩)) p g n = _
        rw [e]
        exact placeL_head (by rw [e0]; exact hp)

/-- a place that holds on to what is behind it; n: what the text ahead has become -/
def posR : List S56 → Int → Int → Int → Int
  | [], a, n, p => n + (p - a)
  | o :: l, a, n, p =>
    if o.f0 = 2 then posR l a (n + o.f2.size) p
    else if o.f0 = 1 then (if p < a + o.f1 then n + (p - a) else posR l (a + o.f1) (n + o.f1) p)
    else (if p < a + o.f1 then n else posR l (a + o.f1) n p)
/-- a place that holds on to what is ahead of it; e: what is put in the change that is open -/
def posL : List S56 → Int → Int → Int → Int → Int
  | [], a, n, e, p => if p ≤ a then n else n + e + (p - a)
  | o :: l, a, n, e, p =>
    if o.f0 = 2 then posL l a n (e + o.f2.size) p
    else if o.f0 = 1 then (if p ≤ a then n else if p ≤ a + o.f1 then n + e + (p - a) else posL l (a + o.f1) (n + e + o.f1) 0 p)
    else (if p ≤ a + o.f1 then n else posL l (a + o.f1) n e p)

theorem kind_cases {o : S56} (h : opV o = true) : (o.f0 = 2 ∧ o.f1 = 0 ∧ 1 ≤ o.f2.size) ∨ (o.f0 ≠ 2 ∧ o.f0 = 1 ∧ 1 ≤ o.f1) ∨ (o.f0 ≠ 2 ∧ o.f0 ≠ 1 ∧ o.f0 = 3 ∧ 1 ≤ o.f1) := by
  rcases opV_cases h with ⟨k0, k1, _⟩ | ⟨k0, k1, _⟩ | ⟨k0, k1, _, k3⟩
  · exact .inr (.inl ⟨by omega, k0, k1⟩)
  · exact .inr (.inr ⟨by omega, by omega, k0, k1⟩)
  · exact .inl ⟨k0, k1, k3⟩
theorem ops_cons {q : Option S56} {o : S56} {l : List S56} (h : opsV q (o :: l) = true) : opV o = true ∧ nextV q o = true ∧ opsV (some o) l = true := by
  unfold opsV at h
  rw [Bool.and_eq_true, Bool.and_eq_true] at h
  exact ⟨h.1.1, h.1.2, h.2⟩
/-- behind a dropping only a keeping comes -/
theorem next_drop {q o : S56} (h : nextV (some q) o = true) (hq : q.f0 = 3) (ho : opV o = true) : o.f0 = 1 := by
  unfold nextV at h
  simp only [hq] at h
  rcases opV_cases ho with ⟨k0, _⟩ | ⟨k0, _⟩ | ⟨k0, _⟩
  · exact k0
  · rw [k0] at h; simp at h
  · rw [k0] at h; simp at h
theorem next_put {q o : S56} (h : nextV (some q) o = true) (hq : q.f0 = 2) : o.f0 ≠ 2 := by
  unfold nextV at h
  simp only [hq] at h
  intro e
  rw [e] at h
  simp at h

theorem posL_le : ∀ (l : List S56) (q : Option S56) (a n e p : Int), opsV q l = true → p ≤ a → posL l a n e p = n
  | [], q, a, n, e, p, _, h => by rw [posL, if_pos h]
  | o :: l, q, a, n, e, p, ho, h => by
    obtain ⟨h1, h2, h3⟩ := ops_cons ho
    rw [posL]
    rcases kind_cases h1 with ⟨k0, _, _⟩ | ⟨k0, k1, k2⟩ | ⟨k0, k1, _, k2⟩
    · rw [if_pos k0]; exact posL_le l (some o) a n _ p h3 h
    · rw [if_neg k0, if_pos k1, if_pos h]
    · rw [if_neg k0, if_neg k1, if_pos (by omega)]

/-! ### bounds -/
theorem posR_in : ∀ (l : List S56) (q : Option S56) (a t p : Int) (ft : Int × Int), opsV q l = true → sumsV a t l = some ft → a ≤ p → p ≤ ft.1 → t ≤ posR l a t p ∧ posR l a t p ≤ ft.2
  | [], q, a, t, p, ft, _, hs, h1, h2 => by
    simp only [sumsV, Option.some.injEq] at hs
    subst hs
    rw [posR]; simp only at h2 ⊢; omega
  | o :: l, q, a, t, p, ft, ho, hs, h1, h2 => by
    obtain ⟨g1, g2, g3⟩ := ops_cons ho
    rw [posR]
    unfold sumsV at hs
    split at hs
    · have hm := sums_mono l (some o) _ _ ft g3 hs
      rcases kind_cases g1 with ⟨k0, k1, k2⟩ | ⟨k0, k1, k2⟩ | ⟨k0, k1, k3, k2⟩
      · have e1 : fromN o = 0 := by unfold fromN; rw [if_pos (by omega)]
        have e2 : toN o = (o.f2.size : Int) := by unfold toN; rw [if_neg (by omega), if_pos (by omega)]
        rw [e1, e2, Int.add_zero] at hs
        rw [if_pos k0]
        have := posR_in l (some o) a _ p ft g3 hs h1 h2
        omega
      · have e1 : fromN o = o.f1 := by unfold fromN; rw [if_neg (by omega)]
        have e2 : toN o = o.f1 := by unfold toN; rw [if_neg (by omega), if_neg (by omega)]
        rw [e1, e2] at hs hm
        rw [if_neg k0, if_pos k1]
        by_cases h : p < a + o.f1
        · rw [if_pos h]; omega
        · rw [if_neg h]
          have := posR_in l (some o) _ _ p ft g3 hs (by omega) h2
          omega
      · have e1 : fromN o = o.f1 := by unfold fromN; rw [if_neg (by omega)]
        have e2 : toN o = 0 := by unfold toN; rw [if_pos k3]
        rw [e1, e2, Int.add_zero] at hs hm
        rw [if_neg k0, if_neg k1]
        by_cases h : p < a + o.f1
        · rw [if_pos h]; omega
        · rw [if_neg h]
          have := posR_in l (some o) _ _ p ft g3 hs (by omega) h2
          omega
    · cases hs
theorem posL_in : ∀ (l : List S56) (q : Option S56) (a n e p : Int) (ft : Int × Int), opsV q l = true → sumsV a (n + e) l = some ft → 0 ≤ e → p ≤ ft.1 → n ≤ posL l a n e p ∧ posL l a n e p ≤ ft.2
  | [], q, a, n, e, p, ft, _, hs, he, h2 => by
    simp only [sumsV, Option.some.injEq] at hs
    subst hs
    rw [posL]; simp only at h2 ⊢; split <;> omega
  | o :: l, q, a, n, e, p, ft, ho, hs, he, h2 => by
    obtain ⟨g1, g2, g3⟩ := ops_cons ho
    rw [posL]
    unfold sumsV at hs
    split at hs
    · have hm := sums_mono l (some o) _ _ ft g3 hs
      rcases kind_cases g1 with ⟨k0, k1, k2⟩ | ⟨k0, k1, k2⟩ | ⟨k0, k1, k3, k2⟩
      · have e1 : fromN o = 0 := by unfold fromN; rw [if_pos (by omega)]
        have e2 : toN o = (o.f2.size : Int) := by unfold toN; rw [if_neg (by omega), if_pos (by omega)]
        rw [e1, e2, Int.add_zero, Int.add_assoc] at hs
        rw [if_pos k0]
        exact posL_in l (some o) a n _ p ft g3 hs (by omega) h2
      · have e1 : fromN o = o.f1 := by unfold fromN; rw [if_neg (by omega)]
        have e2 : toN o = o.f1 := by unfold toN; rw [if_neg (by omega), if_neg (by omega)]
        rw [e1, e2] at hs hm
        rw [if_neg k0, if_pos k1]
        by_cases h0 : p ≤ a
        · rw [if_pos h0]; omega
        · rw [if_neg h0]
          by_cases h : p ≤ a + o.f1
          · rw [if_pos h]; omega
          · rw [if_neg h]
            have := posL_in l (some o) (a + o.f1) (n + e + o.f1) 0 p ft g3 (by rw [Int.add_zero]; exact hs) (by omega) h2
            omega
      · have e1 : fromN o = o.f1 := by unfold fromN; rw [if_neg (by omega)]
        have e2 : toN o = 0 := by unfold toN; rw [if_pos k3]
        rw [e1, e2, Int.add_zero] at hs hm
        rw [if_neg k0, if_neg k1]
        by_cases h : p ≤ a + o.f1
        · rw [if_pos h]; omega
        · rw [if_neg h]
          exact posL_in l (some o) _ n e p ft g3 hs he h2
    · cases hs

/-- posR is what placeL tells at a right gravity -/
theorem placeR_pos (g : Int) (hg : g ≠ 1) : ∀ (l : List S56) (q : Option S56) (a p g0 : Int), opsV q l = true →
    (a ≤ p → placeL (chg l a none) p g g0 = posR l a (a + g0) p) ∧
    (∀ c : S99, (∃ q', q = some q' ∧ (q'.f0 = 2 ∨ q'.f0 = 3)) → c.f0 ≤ c.f1 → c.f1 = a → (a ≤ p → placeL (chg l a (some c)) p g g0 = posR l a (c.f0 + g0 + c.f2.size) p) ∧ (c.f0 ≤ p → p < a → (∃ q', q = some q' ∧ q'.f0 = 3) → placeL (chg l a (some c)) p g g0 = c.f0 + g0 + c.f2.size))
  | [], q, a, p, g0, _ => by
    refine ⟨fun h => by show p + g0 = a + g0 + (p - a); omega, fun c _ hc0 hc => ⟨fun hp => ?_, fun hp hp2 _ => ?_⟩⟩
    · show placeL [c] p g g0 = c.f0 + g0 + c.f2.size + (p - a)
      rw [placeL, if_neg (by omega)]
      by_cases h : p ≤ c.f1
      · rw [if_pos h, if_neg hg]; omega
      · rw [if_neg h, placeL]; omega
    · show placeL [c] p g g0 = _
      rw [placeL, if_neg (by omega), if_pos (by omega), if_neg hg]
  | o :: l, q, a, p, g0, ho => by
    obtain ⟨h1, h2, h3⟩ := ops_cons ho
    have hfar := fun n hn => chg_far l (some o) (a + o.f1) p g n h3 hn
    rcases kind_cases h1 with ⟨k0, k1, k2⟩ | ⟨k0, k1, k2⟩ | ⟨k0, k1, k3, k2⟩
    · refine ⟨fun hp => ?_, fun c hq hc0 hc => ?_⟩
      · rw [chg, posR, if_pos k0, if_pos k0]
        exact ((placeR_pos g hg l (some o) a p g0 h3).2 ⟨a, a, o.f2⟩ ⟨o, rfl, .inl k0⟩ (Int.le_refl _) rfl).1 hp
      · obtain ⟨q', rfl, hq⟩ := hq
        rcases hq with hq | hq
        · exact absurd k0 (next_put h2 hq)
        · have := next_drop h2 hq h1; omega
    · refine ⟨fun hp => ?_, fun c hq hc0 hc => ⟨fun hp => ?_, fun hp hp2 _ => ?_⟩⟩
      · rw [chg, posR, if_neg k0, if_neg k0, if_pos k1, if_pos k1]
        show placeL (chg l (a + o.f1) none) p g g0 = _
        by_cases h : p < a + o.f1
        · rw [if_pos h, hfar g0 h]; omega
        · rw [if_neg h, (placeR_pos g hg l (some o) (a + o.f1) p g0 h3).1 (by omega)]
          congr 1; omega
      · rw [chg, posR, if_neg k0, if_neg k0, if_pos k1, if_pos k1]
        show placeL (c :: chg l (a + o.f1) none) p g g0 = _
        rw [placeL, if_neg (by omega)]
        by_cases h : p ≤ c.f1
        · rw [if_pos h, if_neg hg, if_pos (by omega)]; omega
        · rw [if_neg h]
          by_cases h' : p < a + o.f1
          · rw [if_pos h', hfar _ h']; omega
          · rw [if_neg h', (placeR_pos g hg l (some o) (a + o.f1) p _ h3).1 (by omega)]
            congr 1; omega
      · rw [chg, if_neg k0, if_pos k1]
        show placeL (c :: chg l (a + o.f1) none) p g g0 = _
        rw [placeL, if_neg (by omega), if_pos (by omega), if_neg hg]
    · have hd : ∃ q', some o = some q' ∧ (q'.f0 = 2 ∨ q'.f0 = 3) := ⟨o, rfl, .inr k3⟩
      have hd3 : ∃ q', some o = some q' ∧ q'.f0 = 3 := ⟨o, rfl, k3⟩
      refine ⟨fun hp => ?_, fun c hq hc0 hc => ⟨fun hp => ?_, fun hp hp2 hq3 => ?_⟩⟩
      · rw [chg, posR, if_neg k0, if_neg k0, if_neg k1, if_neg k1]
        have ih := (placeR_pos g hg l (some o) (a + o.f1) p g0 h3).2 (dropC none a (a + o.f1)) hd (by show a ≤ a + o.f1; omega) rfl
        by_cases h : p < a + o.f1
        · rw [if_pos h, ih.2 hp h hd3]; simp [dropC, ByteArray.size]
        · rw [if_neg h, ih.1 (by omega)]
          congr 1; simp [dropC, ByteArray.size]
      · rw [chg, posR, if_neg k0, if_neg k0, if_neg k1, if_neg k1]
        have ih := (placeR_pos g hg l (some o) (a + o.f1) p g0 h3).2 (dropC (some c) a (a + o.f1)) hd (by show c.f0 ≤ a + o.f1; omega) rfl
        by_cases h : p < a + o.f1
        · rw [if_pos h, ih.2 (by show c.f0 ≤ p; omega) h hd3]; rfl
        · rw [if_neg h, ih.1 (by omega)]; rfl
      · obtain ⟨q', rfl, hq4⟩ := hq3
        exact absurd (next_drop h2 hq4 h1) k1

/-- posL is what placeL tells at a left gravity -/
theorem placeL_pos : ∀ (l : List S56) (q : Option S56) (a p g0 : Int), opsV q l = true →
    (a ≤ p → placeL (chg l a none) p 1 g0 = posL l a (a + g0) 0 p) ∧
    (∀ c : S99, (∃ q', q = some q' ∧ (q'.f0 = 2 ∨ q'.f0 = 3)) → c.f0 ≤ c.f1 → c.f1 = a → c.f0 ≤ p → placeL (chg l a (some c)) p 1 g0 = posL l a (c.f0 + g0) c.f2.size p)
  | [], q, a, p, g0, _ => by
    refine ⟨fun h => ?_, fun c _ hc0 hc hp => ?_⟩
    · show p + g0 = (if p ≤ a then a + g0 else a + g0 + 0 + (p - a))
      split <;> omega
    · show placeL [c] p 1 g0 = (if p ≤ a then c.f0 + g0 else c.f0 + g0 + c.f2.size + (p - a))
      rw [placeL, if_neg (by omega)]
      by_cases h : p ≤ c.f1
      · rw [if_pos h, if_pos rfl, if_pos (by omega)]
      · rw [if_neg h, placeL, if_neg (by omega)]; omega
  | o :: l, q, a, p, g0, ho => by
    obtain ⟨h1, h2, h3⟩ := ops_cons ho
    have hfar := fun n hn => chg_far l (some o) (a + o.f1) p 1 n h3 hn
    rcases kind_cases h1 with ⟨k0, k1, k2⟩ | ⟨k0, k1, k2⟩ | ⟨k0, k1, k3, k2⟩
    · refine ⟨fun hp => ?_, fun c hq hc0 hc => ?_⟩
      · rw [chg, posL, if_pos k0, if_pos k0, Int.zero_add]
        exact ((placeL_pos l (some o) a p g0 h3).2 ⟨a, a, o.f2⟩ ⟨o, rfl, .inl k0⟩ (Int.le_refl _) rfl) hp
      · obtain ⟨q', rfl, hq⟩ := hq
        rcases hq with hq | hq
        · exact absurd k0 (next_put h2 hq)
        · have := next_drop h2 hq h1; omega
    · refine ⟨fun hp => ?_, fun c hq hc0 hc hp => ?_⟩
      · rw [chg, posL, if_neg k0, if_neg k0, if_pos k1, if_pos k1]
        show placeL (chg l (a + o.f1) none) p 1 g0 = _
        by_cases h0 : p ≤ a
        · rw [if_pos h0, hfar g0 (by omega)]; omega
        · rw [if_neg h0]
          by_cases h : p ≤ a + o.f1
          · rw [if_pos h]
            by_cases h' : p < a + o.f1
            · rw [hfar g0 h']; omega
            · rw [(placeL_pos l (some o) (a + o.f1) p g0 h3).1 (by omega), posL_le l _ _ _ _ _ h3 h]; omega
          · rw [if_neg h, (placeL_pos l (some o) (a + o.f1) p g0 h3).1 (by omega)]
            congr 1; omega
      · rw [chg, posL, if_neg k0, if_neg k0, if_pos k1, if_pos k1]
        show placeL (c :: chg l (a + o.f1) none) p 1 g0 = _
        rw [placeL, if_neg (by omega)]
        by_cases h : p ≤ c.f1
        · rw [if_pos h, if_pos rfl, if_pos (by omega)]
        · rw [if_neg h, if_neg (by omega)]
          by_cases h' : p ≤ a + o.f1
          · rw [if_pos h']
            by_cases h'' : p < a + o.f1
            · rw [hfar _ h'']; omega
            · rw [(placeL_pos l (some o) (a + o.f1) p _ h3).1 (by omega), posL_le l _ _ _ _ _ h3 h']; omega
          · rw [if_neg h', (placeL_pos l (some o) (a + o.f1) p _ h3).1 (by omega)]
            congr 1; omega
    · have hd : ∃ q', some o = some q' ∧ (q'.f0 = 2 ∨ q'.f0 = 3) := ⟨o, rfl, .inr k3⟩
      refine ⟨fun hp => ?_, fun c hq hc0 hc hp => ?_⟩
      · rw [chg, posL, if_neg k0, if_neg k0, if_neg k1, if_neg k1]
        have ih := (placeL_pos l (some o) (a + o.f1) p g0 h3).2 (dropC none a (a + o.f1)) hd (by show a ≤ a + o.f1; omega) rfl hp
        rw [ih]
        show posL l (a + o.f1) (a + g0) (0 : Nat) p = _
        by_cases h : p ≤ a + o.f1
        · rw [if_pos h, posL_le l _ _ _ _ _ h3 h]
        · rw [if_neg h]; rfl
      · rw [chg, posL, if_neg k0, if_neg k0, if_neg k1, if_neg k1]
        have ih := (placeL_pos l (some o) (a + o.f1) p g0 h3).2 (dropC (some c) a (a + o.f1)) hd (by show c.f0 ≤ a + o.f1; omega) rfl hp
        rw [ih]
        show posL l (a + o.f1) (c.f0 + g0) c.f2.size p = _
        by_cases h : p ≤ a + o.f1
        · rw [if_pos h, posL_le l _ _ _ _ _ h3 h]
        · rw [if_neg h]

theorem opsV_of {l : List S56} (h : validV l = true) : opsV none l = true := by
  unfold validV at h
  rw [Bool.and_eq_true] at h
  exact h.1
theorem placeV_R {l : List S56} (h : validV l = true) {p g : Int} (hg : g ≠ 1) (hp : 0 ≤ p) : placeV l p g = posR l 0 0 p := by
  unfold placeV
  rw [changes_chg]
  exact (placeR_pos g hg l none 0 p 0 (opsV_of h)).1 hp
theorem placeV_L {l : List S56} (h : validV l = true) {p : Int} (hp : 0 ≤ p) : placeV l p 1 = posL l 0 0 0 p := by
  unfold placeV
  rw [changes_chg]
  exact (placeL_pos l none 0 p 0 (opsV_of h)).1 hp
/-- a place of the text comes to stand in the new text -/
theorem placeV_in {l : List S56} (h : validV l = true) {ft : Int × Int} (hs : sumsV 0 0 l = some ft) (p g : Int) (h0 : 0 ≤ p) (h1 : p ≤ ft.1) : 0 ≤ placeV l p g ∧ placeV l p g ≤ ft.2 := by
  by_cases hg : g = 1
  · subst hg
    rw [placeV_L h h0]
    exact posL_in l none 0 0 0 p ft (opsV_of h) hs (Int.le_refl _) h1
  · rw [placeV_R h hg h0]
    exact posR_in l none 0 0 p ft (opsV_of h) hs h0 h1

/-! ### what of a piece is kept -/
def keptF (lo hi : Int) : List S56 → Int → Int
  | [], _ => 0
  | o :: l, a => if o.f0 = 2 then keptF lo hi l a else (if o.f0 = 1 ∧ max a lo < min (a + o.f1) hi then min (a + o.f1) hi - max a lo else 0) + keptF lo hi l (a + o.f1)
theorem holdF (lo hi : Int) (hlo : 0 ≤ lo) : ∀ (l : List S56) (k a f : Int), (l.foldl (holdStep lo hi) (k, a, f)).1 = k + keptF lo hi l a ∧ (0 ≤ f ∨ 0 < keptF lo hi l a → 0 ≤ (l.foldl (holdStep lo hi) (k, a, f)).2.2)
  | [], k, a, f => by
    refine ⟨by simp [keptF], fun h => ?_⟩
    rcases h with h | h
    · exact h
    · simp [keptF] at h
  | o :: l, k, a, f => by
    rw [List.foldl_cons, keptF]
    by_cases h2 : o.f0 = 2
    · have e : holdStep lo hi (k, a, f) o = (k, a, f) := by simp [holdStep, h2]
      rw [e, if_pos h2]
      exact holdF lo hi hlo l k a f
    · rw [if_neg h2]
      by_cases hc : o.f0 = 1 ∧ max a lo < min (a + o.f1) hi
      · have e : holdStep lo hi (k, a, f) o = (k + (min (a + o.f1) hi - max a lo), a + o.f1, if f < 0 then max a lo else f) := by
          unfold holdStep; simp only; rw [if_neg h2, if_pos hc]
        rw [e, if_pos hc]
        obtain ⟨g1, g2⟩ := holdF lo hi hlo l (k + (min (a + o.f1) hi - max a lo)) (a + o.f1) (if f < 0 then max a lo else f)
        refine ⟨by rw [g1]; omega, fun _ => g2 (.inl ?_)⟩
        split <;> omega
      · have e : holdStep lo hi (k, a, f) o = (k, a + o.f1, f) := by
          unfold holdStep; simp only; rw [if_neg h2, if_neg hc]
        rw [e, if_neg hc, Int.zero_add]
        exact holdF lo hi hlo l k (a + o.f1) f
theorem keptF_past (lo hi : Int) : ∀ (l : List S56) (q : Option S56) (a : Int), opsV q l = true → hi ≤ a → keptF lo hi l a = 0
  | [], _, _, _, _ => rfl
  | o :: l, q, a, ho, h => by
    obtain ⟨g1, g2, g3⟩ := ops_cons ho
    rw [keptF]
    rcases kind_cases g1 with ⟨k0, k1, k2⟩ | ⟨k0, k1, k2⟩ | ⟨k0, k1, k3, k2⟩
    · rw [if_pos k0]; exact keptF_past lo hi l (some o) a g3 h
    · rw [if_neg k0, if_neg (by omega), keptF_past lo hi l (some o) (a + o.f1) g3 (by omega)]; rfl
    · rw [if_neg k0, if_neg (by omega), keptF_past lo hi l (some o) (a + o.f1) g3 (by omega)]; rfl
theorem keptF_nonneg (lo hi : Int) : ∀ (l : List S56) (a : Int), 0 ≤ keptF lo hi l a
  | [], _ => Int.le_refl _
  | o :: l, a => by
    rw [keptF]
    have := keptF_nonneg lo hi l a
    have := keptF_nonneg lo hi l (a + o.f1)
    split
    · assumption
    · split <;> omega

/-- the begin is past: what the end comes to -/
theorem end_past (lo hi : Int) : ∀ (l : List S56) (q : Option S56) (a n e : Int) (ft : Int × Int), opsV q l = true → sumsV a (n + e) l = some ft → 0 ≤ e → lo ≤ a → a < hi → hi ≤ ft.1 →
    n + keptF lo hi l a ≤ posL l a n e hi ∧ (0 < keptF lo hi l a → n + e + keptF lo hi l a ≤ posL l a n e hi) ∧ ((∃ q', q = some q' ∧ q'.f0 = 3) → 0 < keptF lo hi l a)
  | [], q, a, n, e, ft, _, hs, _, _, h1, h2 => by
    simp only [sumsV, Option.some.injEq] at hs
    subst hs
    simp only at h2; omega
  | o :: l, q, a, n, e, ft, ho, hs, he, h0, h1, h2 => by
    obtain ⟨g1, g2, g3⟩ := ops_cons ho
    rw [posL, keptF]
    unfold sumsV at hs
    split at hs
    · rcases kind_cases g1 with ⟨k0, k1, k2⟩ | ⟨k0, k1, k2⟩ | ⟨k0, k1, k3, k2⟩
      · have e1 : fromN o = 0 := by unfold fromN; rw [if_pos (by omega)]
        have e2 : toN o = (o.f2.size : Int) := by unfold toN; rw [if_neg (by omega), if_pos (by omega)]
        rw [e1, e2, Int.add_zero, Int.add_assoc] at hs
        rw [if_pos k0, if_pos k0]
        obtain ⟨i1, i2, -⟩ := end_past lo hi l (some o) a n (e + o.f2.size) ft g3 hs (by omega) h0 h1 h2
        refine ⟨i1, fun h => by have := i2 h; omega, fun ⟨q', hq, hq3⟩ => ?_⟩
        subst hq
        have := next_drop g2 hq3 g1
        omega
      · have e1 : fromN o = o.f1 := by unfold fromN; rw [if_neg (by omega)]
        have e2 : toN o = o.f1 := by unfold toN; rw [if_neg (by omega), if_neg (by omega)]
        rw [e1, e2] at hs
        rw [if_neg k0, if_pos k1, if_neg k0, if_neg (show ¬ hi ≤ a by omega), if_pos (show o.f0 = 1 ∧ max a lo < min (a + o.f1) hi by omega)]
        by_cases h : hi ≤ a + o.f1
        · rw [if_pos h, keptF_past lo hi l _ _ g3 h]
          refine ⟨by omega, fun _ => by omega, fun _ => by omega⟩
        · rw [if_neg h]
          have := keptF_nonneg lo hi l (a + o.f1)
          obtain ⟨i1, -, -⟩ := end_past lo hi l (some o) (a + o.f1) (n + e + o.f1) 0 ft g3 (by rw [Int.add_zero]; exact hs) (by omega) (by omega) (by omega) h2
          refine ⟨by omega, fun _ => by omega, fun _ => by omega⟩
      · have e1 : fromN o = o.f1 := by unfold fromN; rw [if_neg (by omega)]
        have e2 : toN o = 0 := by unfold toN; rw [if_pos k3]
        rw [e1, e2, Int.add_zero] at hs
        rw [if_neg k0, if_neg k1, if_neg k0, if_neg (show ¬ (o.f0 = 1 ∧ max a lo < min (a + o.f1) hi) by omega)]
        have hq : ∀ P : Prop, (∃ q', q = some q' ∧ q'.f0 = 3) → P := fun P ⟨q', hq, hq3⟩ => by
          subst hq
          exact absurd (next_drop g2 hq3 g1) k1
        by_cases h : hi ≤ a + o.f1
        · rw [if_pos h, keptF_past lo hi l _ _ g3 h]
          exact ⟨by omega, fun h => by omega, hq _⟩
        · rw [if_neg h]
          obtain ⟨i1, i2, i3⟩ := end_past lo hi l (some o) (a + o.f1) n e ft g3 hs he (by omega) (by omega) h2
          exact ⟨by omega, fun h => by have := i2 (by omega); omega, hq _⟩
    · cases hs
/-- both ends of a piece -/
theorem both_ends (lo hi : Int) (hlh : lo < hi) : ∀ (l : List S56) (q : Option S56) (a n e : Int) (ft : Int × Int), opsV q l = true → sumsV a (n + e) l = some ft → 0 ≤ e → a ≤ lo → hi ≤ ft.1 →
    (keptF lo hi l a = 0 → posL l a n e hi ≤ posR l a (n + e) lo) ∧ (0 < keptF lo hi l a → keptF lo hi l a ≤ posL l a n e hi - posR l a (n + e) lo)
  | [], q, a, n, e, ft, _, hs, _, h0, h2 => by
    simp only [sumsV, Option.some.injEq] at hs
    subst hs
    simp only at h2; omega
  | o :: l, q, a, n, e, ft, ho, hs, he, h0, h2 => by
    obtain ⟨g1, g2, g3⟩ := ops_cons ho
    rw [posL, keptF, posR]
    unfold sumsV at hs
    split at hs
    · rcases kind_cases g1 with ⟨k0, k1, k2⟩ | ⟨k0, k1, k2⟩ | ⟨k0, k1, k3, k2⟩
      · have e1 : fromN o = 0 := by unfold fromN; rw [if_pos (by omega)]
        have e2 : toN o = (o.f2.size : Int) := by unfold toN; rw [if_neg (by omega), if_pos (by omega)]
        rw [e1, e2, Int.add_zero, Int.add_assoc] at hs
        rw [if_pos k0, if_pos k0, if_pos k0, Int.add_assoc]
        exact both_ends lo hi hlh l (some o) a n (e + o.f2.size) ft g3 hs (by omega) h0 h2
      · have e1 : fromN o = o.f1 := by unfold fromN; rw [if_neg (by omega)]
        have e2 : toN o = o.f1 := by unfold toN; rw [if_neg (by omega), if_neg (by omega)]
        rw [e1, e2] at hs
        rw [if_neg k0, if_pos k1, if_neg k0, if_neg k0, if_pos k1, if_neg (show ¬ hi ≤ a by omega)]
        by_cases hl : lo < a + o.f1
        · rw [if_pos hl, if_pos (show o.f0 = 1 ∧ max a lo < min (a + o.f1) hi by omega)]
          by_cases h : hi ≤ a + o.f1
          · rw [if_pos h, keptF_past lo hi l _ _ g3 h]
            exact ⟨fun _ => by omega, fun _ => by omega⟩
          · rw [if_neg h]
            have := keptF_nonneg lo hi l (a + o.f1)
            obtain ⟨i1, -, -⟩ := end_past lo hi l (some o) (a + o.f1) (n + e + o.f1) 0 ft g3 (by rw [Int.add_zero]; exact hs) (by omega) (by omega) (by omega) h2
            exact ⟨fun _ => by omega, fun _ => by omega⟩
        · rw [if_neg hl, if_neg (show ¬ (o.f0 = 1 ∧ max a lo < min (a + o.f1) hi) by omega), Int.zero_add, if_neg (by omega)]
          have := both_ends lo hi hlh l (some o) (a + o.f1) (n + e + o.f1) 0 ft g3 (by rw [Int.add_zero]; exact hs) (by omega) (by omega) h2
          rw [Int.add_zero] at this
          exact this
      · have e1 : fromN o = o.f1 := by unfold fromN; rw [if_neg (by omega)]
        have e2 : toN o = 0 := by unfold toN; rw [if_pos k3]
        rw [e1, e2, Int.add_zero] at hs
        rw [if_neg k0, if_neg k1, if_neg k0, if_neg (show ¬ (o.f0 = 1 ∧ max a lo < min (a + o.f1) hi) by omega), if_neg k0, if_neg k1, Int.zero_add]
        by_cases hl : lo < a + o.f1
        · rw [if_pos hl]
          by_cases h : hi ≤ a + o.f1
          · rw [if_pos h, keptF_past lo hi l _ _ g3 h]
            exact ⟨fun _ => by omega, fun h => by omega⟩
          · rw [if_neg h]
            obtain ⟨i1, i2, i3⟩ := end_past lo hi l (some o) (a + o.f1) n e ft g3 hs he (by omega) (by omega) h2
            have i4 := i3 ⟨o, rfl, k3⟩
            exact ⟨fun h => by omega, fun _ => by have := i2 i4; omega⟩
        · rw [if_neg hl, if_neg (show ¬ hi ≤ a + o.f1 by omega)]
          exact both_ends lo hi hlh l (some o) (a + o.f1) n e ft g3 hs he (by omega) h2
    · cases hs

theorem holds_pure {l : List S56} (h : validV l = true) {n too : Int} (hs : sumsV 0 0 l = some (n, too)) (x : S24) (h0 : 0 ≤ x.f1) (h1 : x.f1 < x.f2) (h2 : x.f2 ≤ n) : HoldsPure x l := by
  intro e3 e4
  rw [e3, e4, placeV_R h (by decide) h0, placeV_L h (by omega)]
  obtain ⟨b1, b2⟩ := both_ends x.f1 x.f2 h1 l none 0 0 0 (n, too) (opsV_of h) hs (Int.le_refl _) h0 h2
  obtain ⟨f1, f2⟩ := holdF x.f1 x.f2 h0 l 0 0 (-1)
  have f3 := keptF_nonneg x.f1 x.f2 l 0
  unfold holdV
  rw [f1]
  rw [Int.add_zero] at b1 b2
  by_cases hk : keptF x.f1 x.f2 l 0 = 0
  · have := b1 hk
    rw [if_neg (by omega)]
    omega
  · have := b2 (by omega)
    rw [if_pos (by omega)]
    exact ⟨by omega, by omega, f2 (.inr (by omega))⟩

/-- the statement's walk, whole -/
theorem rangesHolds_walk (n : Int) (x : S24) (A : Option Addr) (c : Nat) (l : List S56) (w : World) (hr : Kd.C k56 w A l.length l) (hc : l.length ≤ c) (hl : l.length < 4398046511104) (hs : Sane l) :
    Calls Try.prog 5 #[.int .i64 n, encR x, .slice A l.length c] w fun e w' => e = .returned (.bool true) ∧ Below w.heap.size w w' := by
  by_cases h0 : n < 0 ∨ 268435456 < n
  · exact holds_new n x A c l w h0
  · by_cases he : setE n [] x = 0
    · by_cases hv : validV l = true ∧ ((sumsV 0 0 l).getD (0, 0)).1 = n
      · obtain ⟨hv, hn⟩ := hv
        obtain ⟨-, ft, hft, -⟩ := seen_of_valid hv
        obtain ⟨f, t⟩ := ft
        rw [hft] at hn
        simp only [Option.getD_some] at hn
        subst hn
        have hc1 : ¬ (x.f0.size = 0 ∨ 64 < x.f0.size) := fun h => by unfold setE at he; rw [if_pos h] at he; cases he
        have hc2 : ¬ (x.f1 < 0 ∨ x.f1 ≥ x.f2 ∨ x.f2 > f ∨ gravV x.f3 = false ∨ gravV x.f4 = false) := fun h => by unfold setE at he; rw [if_neg hc1, if_pos h] at he; cases he
        exact holds_ok f x A c l w (by omega) (by omega) he hr hc hl hs hv t hft
          (holds_pure hv hft x (by have := fun e => hc2 (.inl e); omega) (by have := fun e => hc2 (.inr (.inl e)); omega) (by have := fun e => hc2 (.inr (.inr (.inl e))); omega))
          (fun p g h1 h2 => placeV_in hv hft p g h1 h2)
      · refine holds_err n x A c l w (by omega) (by omega) he hr hc hl hs ?_
        cases hb : validV l with
        | false => exact .inl rfl
        | true => exact .inr (fun e => hv ⟨hb, e⟩)
    · exact holds_set n x A c l w (by omega) (by omega) he
end Go.Proofs.Ytjladdjpnicldaa.PA
