/- Plain law: what shift.Place tells of a canonical delta: placeV over its changes. No program. -/
import Derived.Test.YtjladdjpnicldaaPAx12
namespace Go.Proofs.Ytjladdjpnicldaa.PA
open Go.RowKit Go.Proofs.YtjladdjpnicldaaW.PrintWords Go.Proofs.YtjladdjpnicldaaW.PrintLast Go.Proofs.YtjladdjpnicldaaW.PrintMore

def okC (c : S99) (f : Int) : Prop := 0 ≤ c.f0 ∧ c.f0 ≤ c.f1 ∧ c.f1 ≤ f ∧ c.f2.size ≤ 268435456
theorem okC.mono {c : S99} {f g : Int} (h : okC c f) (hg : f ≤ g) : okC c g := ⟨h.1, h.2.1, by have := h.2.2.1; omega, h.2.2.2⟩
theorem cs_from : ∀ (l : List S56) (p : Option S56) (f t : Int) (s : Int × Bool × List S99) (ft : Int × Int), opsV p l = true → sumsV f t l = some ft → s.1 = f → 0 ≤ f → 0 ≤ t → (∀ c ∈ s.2.2, okC c f) → (s.2.1 = true → s.2.2 ≠ []) → ∀ c ∈ (l.foldl stepC s).2.2, okC c ft.1
  | [], _, f, t, s, ft, _, hs, _, _, _, hc, _ => by
    simp only [sumsV, Option.some.injEq] at hs
    subst hs
    exact hc
  | o :: l, p, f, t, s, ft, ho, hs, hf, h0, h1, hc, hx => by
    unfold opsV at ho
    rw [Bool.and_eq_true, Bool.and_eq_true] at ho
    obtain ⟨⟨ho1, ho2⟩, ho3⟩ := ho
    unfold sumsV at hs
    split at hs
    · rename_i hM
      obtain ⟨a, op, xs⟩ := s
      simp only at hf hc hx
      subst hf
      rw [List.foldl_cons]
      have hN := fromN_nonneg ho1
      refine cs_from l (some o) (a + fromN o) (t + toN o) _ ft ho3 hs ?_ (by omega) (by omega) ?_ ?_
      · rcases opV_cases ho1 with ⟨k0, k1, -⟩ | ⟨k0, k1, -⟩ | ⟨k0, k1, -, k3⟩ <;> simp [stepC, fromN, k0]
      · rcases opV_cases ho1 with ⟨k0, k1, -⟩ | ⟨k0, k1, -⟩ | ⟨k0, k1, -, k3⟩
        · have e1 : fromN o = o.f1 := by unfold fromN; rw [if_neg (by omega)]
          simp only [stepC, k0]
          intro c hcm
          exact (hc c hcm).mono (by omega)
        · have e1 : fromN o = o.f1 := by unfold fromN; rw [if_neg (by omega)]
          have e3 : stepC (a, op, xs) o = (a + o.f1, true, if op then setHi xs (a + o.f1) else xs ++ [⟨a, a + o.f1, ⟨#[]⟩⟩]) := by simp [stepC, k0]
          rw [e3, e1]
          cases op with
          | false =>
            intro c hcm
            rcases List.mem_append.1 hcm with hcm | hcm
            · exact (hc c hcm).mono (by omega)
            · rw [List.mem_singleton.1 hcm]
              exact ⟨h0, by simp only; omega, by simp only; omega, Nat.zero_le _⟩
          | true =>
            obtain ⟨ys, y, rfl⟩ : ∃ ys y, xs = ys ++ [y] := ⟨xs.dropLast, xs.getLast (hx rfl), (List.dropLast_concat_getLast (hx rfl)).symm⟩
            simp only [if_true]
            rw [setHi_snoc]
            have hy := hc y (by simp)
            intro c hcm
            rcases List.mem_append.1 hcm with hcm | hcm
            · exact (hc c (List.mem_append_left _ hcm)).mono (by omega)
            · rw [List.mem_singleton.1 hcm]
              exact ⟨hy.1, by have := hy.2.1; have := hy.2.2.1; simp only; omega, by simp only; omega, hy.2.2.2⟩
        · have e1 : fromN o = 0 := by unfold fromN; rw [if_pos (by omega)]
          have e2 : toN o = (o.f2.size : Int) := by unfold toN; rw [if_neg (by omega), if_pos (by omega)]
          have e3 : stepC (a, op, xs) o = (a, true, xs ++ [⟨a, a, o.f2⟩]) := by simp [stepC, k0]
          rw [e3, e1]
          intro c hcm
          rcases List.mem_append.1 hcm with hcm | hcm
          · exact (hc c hcm).mono (by omega)
          · rw [List.mem_singleton.1 hcm]
            exact ⟨h0, Int.le_refl _, by simp only; omega, by simp only; omega⟩
      · rcases opV_cases ho1 with ⟨k0, k1, -⟩ | ⟨k0, k1, -⟩ | ⟨k0, k1, -, k3⟩
        · simp [stepC, k0]
        · have e3 : stepC (a, op, xs) o = (a + o.f1, true, if op then setHi xs (a + o.f1) else xs ++ [⟨a, a + o.f1, ⟨#[]⟩⟩]) := by simp [stepC, k0]
          rw [e3]
          intro _
          cases op with
          | false => simp
          | true =>
            intro e
            have h5 : (setHi xs (a + o.f1)).length = 0 := by
              simp only [if_true] at e
              rw [e]; rfl
            rw [setHi_length] at h5
            exact hx rfl (List.length_eq_zero_iff.1 h5)
        · have e3 : stepC (a, op, xs) o = (a, true, xs ++ [⟨a, a, o.f2⟩]) := by simp [stepC, k0]
          rw [e3]
          simp
    · cases hs

/-- the changes of a canonical delta -/
def CsOK (cs : List S99) : Prop := cs.length ≤ 1073741824 ∧ ∀ c ∈ cs, okC c 268435456
theorem csOK_valid {l : List S56} (h : validV l = true) : CsOK (changesV l) := by
  obtain ⟨-, ft, hft, g1, g2, g3, g4, g5, -, g7⟩ := seen_of_valid h
  refine ⟨by omega, fun c hc => (cs_from l none 0 0 (0, false, []) ft ?_ hft rfl (by omega) (by omega) (by simp) (by simp) c hc).mono g4⟩
  unfold validV at h
  rw [Bool.and_eq_true] at h
  exact h.1

/-- where a place is behind changes -/
def placeL : List S99 → Int → Int → Int → Int
  | [], p, _, n => p + n
  | c :: cs, p, g, n => if p < c.f0 then p + n else if p ≤ c.f1 then (if g = 1 then c.f0 + n else c.f0 + n + c.f2.size) else placeL cs p g (n + (c.f2.size - (c.f1 - c.f0)))
def placeV (d : List S56) (p g : Int) : Int := placeL (changesV d) p g 0

theorem drop_cons99 {l : List S99} {i : Nat} (h : i < l.length) : l.drop i = rd_T99 l (i : Int) :: l.drop (i + 1) := by
  rw [List.drop_eq_getElem_cons h]
  congr 1
  unfold rd_T99
  rw [List.getD_eq_getElem?_getD, Int.toNat_natCast, List.getElem?_eq_getElem h]; rfl
theorem mem99 {l : List S99} {i : Nat} (h : i < l.length) : rd_T99 l (i : Int) ∈ l := by
  have : rd_T99 l (i : Int) = l[i] := by
    unfold rd_T99
    rw [List.getD_eq_getElem?_getD, Int.toNat_natCast, List.getElem?_eq_getElem h]; rfl
  rw [this]
  exact List.getElem_mem h

theorem place_loop (cs : List S99) (hcs : CsOK cs) (p g : Int) (hp0 : 0 ≤ p) (hp1 : p ≤ 268435456) (d : Nat) : ∀ (K i : Nat) (n : Int), cs.length - i = d → i ≤ cs.length → d < K → -(i * 536870912 : Int) ≤ n → n ≤ (i * 536870912 : Int) →
    shift_Place.l0 K p g n cs (cs.length : Int) (i : Int) = some (placeL (cs.drop i) p g n, 0) := by
  have hl := hcs.1
  induction d with
  | zero =>
    intro K i n hd hi hK hn0 hn1
    obtain ⟨K, rfl⟩ : ∃ m, K = m + 1 := ⟨K - 1, by omega⟩
    obtain rfl : i = cs.length := by omega
    simp only [shift_Place.l0]
    rw [if_neg (by omega), List.drop_length, wrap_ok (by omega) (by omega)]
    rfl
  | succ d ih =>
    intro K i n hd hi hK hn0 hn1
    obtain ⟨K, rfl⟩ : ∃ m, K = m + 1 := ⟨K - 1, by omega⟩
    have hlt : i < cs.length := by omega
    have hi1 : wrap64 ((i : Int) + 1) = ((i + 1 : Nat) : Int) := by rw [wrap_ok (by omega) (by omega)]; omega
    obtain ⟨c0, c1, c2, c3⟩ := hcs.2 _ (mem99 hlt)
    rw [drop_cons99 hlt]
    simp only [shift_Place.l0]
    generalize rd_T99 cs (i : Int) = c at *
    rw [if_pos (by omega), if_pos (by omega), if_pos (by omega)]
    unfold placeL
    have hi2 : ((i + 1 : Nat) : Int) = (i : Int) + 1 := by omega
    by_cases h1 : p < c.f0
    · rw [if_pos h1, if_pos h1, wrap_ok (by omega) (by omega)]
    · rw [if_neg h1, if_neg h1]
      by_cases h2 : p ≤ c.f1
      · rw [if_pos h2, if_pos h2, wrap_ok (x := c.f0 + n) (by omega) (by omega), wrap_ok (by omega) (by omega)]
        by_cases h3 : g = 1
        · rw [if_pos h3, if_pos h3]
        · rw [if_neg h3, if_neg h3]
      · rw [if_neg h2, if_neg h2, hi1, wrap_ok (x := c.f1 - c.f0) (by omega) (by omega), wrap_ok (x := (c.f2.size : Int) - (c.f1 - c.f0)) (by omega) (by omega), wrap_ok (by omega) (by omega)]
        exact ih K (i + 1) _ (by omega) (by omega) (by omega) (by omega) (by omega)

theorem lensF_tells (d : List S56) (hs : Sane d) (K : Nat) (hK : 6 * d.length + 1 < K) : delta_Lens.f K d = some (if validV d then (((sumsV 0 0 d).getD (0, 0)).1, ((sumsV 0 0 d).getD (0, 0)).2, 0) else (0, 0, 130)) := by
  unfold delta_Lens.f
  rw [valid_tells d hs K hK]
  simp only [Option.bind_some]
  cases hv : validV d with
  | false => rfl
  | true =>
    obtain ⟨-, ft, hft, -⟩ := seen_of_valid hv
    have ho : ∀ o ∈ d, opV o = true := by
      unfold validV at hv
      rw [Bool.and_eq_true] at hv
      have : ∀ (l : List S56) (p : Option S56), opsV p l = true → ∀ o ∈ l, opV o = true := by
        intro l
        induction l with
        | nil => intro _ _ o ho; cases ho
        | cons a l ih =>
          intro p h o ho
          unfold opsV at h
          rw [Bool.and_eq_true, Bool.and_eq_true] at h
          rcases List.mem_cons.1 ho with rfl | ho
          · exact h.1.1
          · exact ih _ h.2 o ho
      exact this d none hv.1
    rw [if_pos rfl, lens_tells d hs ho K (by omega), hft]
    rfl

theorem place_tells (d : List S56) (hs : Sane d) (hv : validV d = true) (p g : Int) (h0 : 0 ≤ p) (h1 : p ≤ ((sumsV 0 0 d).getD (0, 0)).1) (hg : g = 1 ∨ g = 2) (K : Nat) (hK : 6 * d.length + 3 < K) :
    shift_Place.f K d p g = some (placeV d p g, 0) := by
  obtain ⟨-, ft, hft, g1, g2, g3, g4, g5, -, g7⟩ := seen_of_valid hv
  have hcs := csOK_valid hv
  obtain ⟨K, rfl⟩ : ∃ m, K = m + 1 := ⟨K - 1, by omega⟩
  unfold shift_Place.f
  rw [lensF_tells d hs (K + 1) (by omega), if_pos hv]
  simp only [Option.bind_some, if_true]
  rw [hft] at h1 ⊢
  simp only [Option.getD_some] at h1 ⊢
  rw [if_neg (by omega), if_neg (by omega)]
  have hj : shift_Place.j0 (K + 1) d p g false = some (placeV d p g, 0) := by
    simp only [shift_Place.j0]
    rw [if_neg (by decide)]
    unfold delta_Changes.f
    rw [if_pos ((saneB_iff d).2 hs), valid_tells d hs K (by omega)]
    simp only [Option.bind_some]
    rw [hv]
    simp only [if_true]
    have := place_loop (changesV d) hcs p g h0 (by omega) (changesV d).length K 0 0 (by omega) (by omega) (by omega) (by omega) (by omega)
    simpa [placeV] using this
  rcases hg with rfl | rfl
  · rw [if_pos rfl]; exact hj
  · rw [if_neg (by decide)]; exact hj
end Go.Proofs.Ytjladdjpnicldaa.PA
