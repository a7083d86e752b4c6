/- Plain law: what the printed delta.Valid and delta.lens tell: validV, sumsV. No program. -/
import Derived.Test.YtjladdjpnicldaaPAx6
namespace Go.Proofs.Ytjladdjpnicldaa.PA
open Go.RowKit Go.Proofs.YtjladdjpnicldaaW.PrintWords Go.Proofs.YtjladdjpnicldaaW.PrintLast Go.Proofs.YtjladdjpnicldaaW.PrintMore

def opV (o : S56) : Bool := if o.f0 = 1 ∨ o.f0 = 3 then decide (1 ≤ o.f1) && (o.f2.toList == []) else (o.f0 == 2) && (o.f1 == 0) && !(o.f2.toList == [])
def nextV (p : Option S56) (o : S56) : Bool := match p with | none => true | some p => !(p.f0 == o.f0) && !(p.f0 == 3 && o.f0 == 2)
def opsV : Option S56 → List S56 → Bool
  | _, [] => true
  | p, o :: l => opV o && nextV p o && opsV (some o) l
def fromN (o : S56) : Int := if o.f0 = 2 then 0 else o.f1
def toN (o : S56) : Int := if o.f0 = 3 then 0 else if o.f0 = 2 then (o.f2.size : Int) else o.f1
def sumsV : Int → Int → List S56 → Option (Int × Int)
  | f, t, [] => some (f, t)
  | f, t, o :: l => if f + fromN o ≤ 268435456 ∧ t + toN o ≤ 268435456 then sumsV (f + fromN o) (t + toN o) l else none
def validV (l : List S56) : Bool := opsV none l && (sumsV 0 0 l).isSome

theorem size_pos {b : ByteArray} (h : (b.toList == []) = false) : 1 ≤ b.size := by
  rcases Nat.eq_zero_or_pos b.size with h0 | h0
  · exfalso
    have : b.toList = [] := by rw [ByteArray.toList]; unfold ByteArray.toList.loop; rw [if_neg (by omega)]; rfl
    rw [this] at h; cases h
  · omega
theorem size_zero {b : ByteArray} (h : (b.toList == []) = true) : b.toList = [] := by simpa using h

/-- one operation that is canonical -/
theorem opV_cases {o : S56} (h : opV o = true) : (o.f0 = 1 ∧ 1 ≤ o.f1 ∧ o.f2.toList = []) ∨ (o.f0 = 3 ∧ 1 ≤ o.f1 ∧ o.f2.toList = []) ∨ (o.f0 = 2 ∧ o.f1 = 0 ∧ o.f2.toList ≠ [] ∧ 1 ≤ o.f2.size) := by
  unfold opV at h
  split at h
  · rename_i c
    simp only [Bool.and_eq_true, decide_eq_true_eq, beq_iff_eq] at h
    rcases c with c | c
    · exact .inl ⟨c, h.1, h.2⟩
    · exact .inr (.inl ⟨c, h.1, h.2⟩)
  · simp only [Bool.and_eq_true, beq_iff_eq, Bool.not_eq_true'] at h
    exact .inr (.inr ⟨h.1.1, h.1.2, fun e => by rw [e] at h; simp at h, size_pos h.2⟩)

theorem wrap_ok {x : Int} (h0 : -9223372036854775808 ≤ x) (h1 : x ≤ 9223372036854775807) : wrap64 x = x := by unfold wrap64; omega

def lensR (r : Option (Int × Int)) : Int × Int × Bool := match r with | some (a, b) => (a, b, true) | none => (0, 0, false)

theorem drop_cons56 {l : List S56} {i : Nat} (h : i < l.length) : l.drop i = rd_T56 l (i : Int) :: l.drop (i + 1) := by
  rw [List.drop_eq_getElem_cons h]
  congr 1
  unfold rd_T56
  rw [List.getD_eq_getElem?_getD, Int.toNat_natCast, List.getElem?_eq_getElem h]; rfl

theorem lens_loop (l : List S56) (hl : l.length ≤ 4611686018427387904) (d : Nat) : ∀ (K i : Nat) (f t : Int), l.length - i = d → i ≤ l.length → 3 * d < K → 0 ≤ f → f ≤ 268435456 → 0 ≤ t → t ≤ 268435456 → (∀ o ∈ l.drop i, opV o = true ∧ o.f2.size ≤ 140737488355328 ∧ o.f1 ≤ 9223372036854775807) →
    delta_lens.l0 K f t l (l.length : Int) (i : Int) = some (lensR (sumsV f t (l.drop i))) := by
  induction d with
  | zero =>
    intro K i f t hd hi hK hf hf1 ht ht1 ho
    obtain ⟨K, rfl⟩ : ∃ m, K = m + 1 := ⟨K - 1, by omega⟩
    obtain rfl : i = l.length := by omega
    simp only [delta_lens.l0]
    rw [if_neg (by omega), List.drop_length]
    rfl
  | succ d ih =>
    intro K i f t hd hi hK hf hf1 ht ht1 ho
    obtain ⟨K, rfl⟩ : ∃ m, K = m + 3 := ⟨K - 3, by omega⟩
    have hlt : i < l.length := by omega
    rw [drop_cons56 hlt] at ho ⊢
    have hi1 : wrap64 ((i : Int) + 1) = ((i + 1 : Nat) : Int) := by rw [wrap_ok (by omega) (by omega)]; omega
    obtain ⟨ho1, hs1, hs2⟩ := ho _ List.mem_cons_self
    have ho2 := fun o h => ho o (List.mem_cons_of_mem _ h)
    simp only [delta_lens.l0]
    rw [if_pos (by omega), if_pos (by omega), if_pos (by omega)]
    generalize rd_T56 l (i : Int) = o at *
    unfold sumsV
    rcases opV_cases ho1 with ⟨h0, h1, -⟩ | ⟨h0, h1, -⟩ | ⟨h0, h1, -, h3⟩
    · rw [if_neg (by omega)]
      simp only [delta_lens.j1, delta_lens.j2]
      have e1 : fromN o = o.f1 := by unfold fromN; rw [if_neg (by omega)]
      have e2 : toN o = o.f1 := by unfold toN; rw [if_neg (by omega), if_neg (by omega)]
      rw [e1, e2]
      by_cases c1 : o.f1 > 268435456
      · rw [if_pos c1, if_neg (by omega)]; rfl
      · rw [if_neg c1, if_neg (by omega), if_neg (by omega), wrap_ok (by omega) (by omega), wrap_ok (x := t + o.f1) (by omega) (by omega)]
        by_cases c2 : f + o.f1 > 268435456
        · rw [if_pos c2, if_neg (by omega)]; rfl
        · rw [if_neg c2]
          by_cases c3 : t + o.f1 > 268435456
          · rw [if_pos c3, if_neg (by omega)]; rfl
          · rw [if_neg c3, if_pos (by omega), hi1]
            exact ih K (i + 1) _ _ (by omega) (by omega) (by omega) (by omega) (by omega) (by omega) (by omega) ho2
    · rw [if_neg (by omega)]
      simp only [delta_lens.j1, delta_lens.j2]
      have e1 : fromN o = o.f1 := by unfold fromN; rw [if_neg (by omega)]
      have e2 : toN o = 0 := by unfold toN; rw [if_pos (by omega)]
      rw [e1, e2]
      by_cases c1 : o.f1 > 268435456
      · rw [if_pos c1, if_neg (by omega)]; rfl
      · rw [if_neg c1, if_neg (by omega), if_pos (by omega), wrap_ok (by omega) (by omega)]
        by_cases c2 : f + o.f1 > 268435456
        · rw [if_pos c2, if_neg (by omega)]; rfl
        · rw [if_neg c2, if_neg (by omega), if_pos (by omega), hi1, Int.add_zero]
          exact ih K (i + 1) _ _ (by omega) (by omega) (by omega) (by omega) (by omega) (by omega) (by omega) ho2
    · rw [if_pos (by omega)]
      simp only [delta_lens.j1, delta_lens.j2]
      have e1 : fromN o = 0 := by unfold fromN; rw [if_pos (by omega)]
      have e2 : toN o = (o.f2.size : Int) := by unfold toN; rw [if_neg (by omega), if_pos (by omega)]
      rw [e1, e2]
      by_cases c1 : (o.f2.size : Int) > 268435456
      · rw [if_pos c1, if_neg (by omega)]; rfl
      · rw [if_neg c1, if_pos (by omega), if_neg (by omega), if_neg (by omega), wrap_ok (by omega) (by omega)]
        by_cases c3 : t + (o.f2.size : Int) > 268435456
        · rw [if_pos c3, if_neg (by omega)]; rfl
        · rw [if_neg c3, if_pos (by omega), hi1, Int.add_zero]
          exact ih K (i + 1) _ _ (by omega) (by omega) (by omega) (by omega) (by omega) (by omega) (by omega) ho2

/-- what comes in: texts and numbers that there are -/
def Sane (l : List S56) : Prop := l.length ≤ 4398046511104 ∧ ∀ o ∈ l, o.f2.size ≤ 140737488355328 ∧ -9223372036854775808 ≤ o.f1 ∧ o.f1 ≤ 9223372036854775807

theorem lens_tells (l : List S56) (hs : Sane l) (ho : ∀ o ∈ l, opV o = true) (K : Nat) (hK : 3 * l.length < K) : delta_lens.f K l = some (lensR (sumsV 0 0 l)) := by
  unfold delta_lens.f
  have := lens_loop l (by have := hs.1; omega) l.length K 0 0 0 (by omega) (by omega) hK (by omega) (by omega) (by omega) (by omega) (fun o h => ⟨ho o h, (hs.2 o h).1, (hs.2 o h).2.2⟩)
  simpa using this

def prevV (l : List S56) (i : Nat) : Option S56 := if i = 0 then none else l[i - 1]?

theorem valid_loop (l : List S56) (hs : Sane l) (d : Nat) : ∀ (K i : Nat), l.length - i = d → i ≤ l.length → 3 * d + 3 * l.length + 1 < K → (∀ o ∈ l.take i, opV o = true) →
    delta_Valid.l0 K l l (l.length : Int) (i : Int) = some (opsV (prevV l i) (l.drop i) && (sumsV 0 0 l).isSome) := by
  have hl := hs.1
  induction d with
  | zero =>
    intro K i hd hi hK ho
    obtain ⟨K, rfl⟩ : ∃ m, K = m + 1 := ⟨K - 1, by omega⟩
    obtain rfl : i = l.length := by omega
    rw [List.take_length] at ho
    simp only [delta_Valid.l0]
    rw [if_neg (by omega), lens_tells l hs ho K (by omega), List.drop_length]
    cases sumsV 0 0 l with
    | none => rfl
    | some p => rfl
  | succ d ih =>
    intro K i hd hi hK ho
    obtain ⟨K, rfl⟩ : ∃ m, K = m + 3 := ⟨K - 3, by omega⟩
    have hlt : i < l.length := by omega
    have hi1 : wrap64 ((i : Int) + 1) = ((i + 1 : Nat) : Int) := by rw [wrap_ok (by omega) (by omega)]; omega
    have htk : l.take (i + 1) = l.take i ++ [rd_T56 l (i : Int)] := by
      rw [List.take_add_one, List.getElem?_eq_getElem hlt]
      unfold rd_T56
      rw [List.getD_eq_getElem?_getD, Int.toNat_natCast, List.getElem?_eq_getElem hlt]; rfl
    have hpv : prevV l (i + 1) = some (rd_T56 l (i : Int)) := by
      unfold prevV rd_T56
      rw [if_neg (by omega), List.getD_eq_getElem?_getD, Int.toNat_natCast, Nat.add_sub_cancel, List.getElem?_eq_getElem hlt]; rfl
    have hnx : ∀ o : S56, opV o = true → (if (i : Int) > 0 then (if 0 ≤ wrap64 ((i : Int) - 1) then (if wrap64 ((i : Int) - 1) < (l.length : Int) then (if (rd_T56 l (wrap64 ((i : Int) - 1))).f0 = o.f0 then (some false) else (if (rd_T56 l (wrap64 ((i : Int) - 1))).f0 = 3 then (if o.f0 = 2 then (some false) else (delta_Valid.l0 K l l (l.length : Int) (wrap64 ((i : Int) + 1)))) else (delta_Valid.l0 K l l (l.length : Int) (wrap64 ((i : Int) + 1))))) else none) else none) else (delta_Valid.l0 K l l (l.length : Int) (wrap64 ((i : Int) + 1))))
        = if nextV (prevV l i) o then delta_Valid.l0 K l l (l.length : Int) ((i + 1 : Nat) : Int) else some false := by
      intro o _
      rw [hi1]
      by_cases c0 : i = 0
      · subst c0
        rw [if_neg (by omega)]
        rfl
      · have hw : wrap64 ((i : Int) - 1) = ((i - 1 : Nat) : Int) := by rw [wrap_ok (by omega) (by omega)]; omega
        have hp : prevV l i = some (rd_T56 l ((i - 1 : Nat) : Int)) := by
          unfold prevV rd_T56
          rw [if_neg c0, List.getD_eq_getElem?_getD, Int.toNat_natCast, List.getElem?_eq_getElem (show i - 1 < l.length by omega)]; rfl
        rw [if_pos (by omega), hw, if_pos (by omega), if_pos (by omega), hp]
        simp only [nextV]
        by_cases c1 : (rd_T56 l ((i - 1 : Nat) : Int)).f0 = o.f0
        · rw [if_pos c1]; simp [c1]
        · rw [if_neg c1]
          by_cases c2 : (rd_T56 l ((i - 1 : Nat) : Int)).f0 = 3
          · rw [if_pos c2]
            by_cases c3 : o.f0 = 2
            · rw [if_pos c3]; simp [c2, c3]
            · rw [if_neg c3]; simp [c3, c1]
          · rw [if_neg c2]; simp [c2, c1]
    have hrest : ∀ o : S56, rd_T56 l (i : Int) = o → opV o = true → (if nextV (prevV l i) o then delta_Valid.l0 K l l (l.length : Int) ((i + 1 : Nat) : Int) else some false) = some (opsV (prevV l i) (o :: l.drop (i + 1)) && (sumsV 0 0 l).isSome) := by
      intro o e h
      unfold opsV
      rw [h]
      by_cases c : nextV (prevV l i) o = true
      · rw [if_pos c, c, ih K (i + 1) (by omega) (by omega) (by omega) (by
          intro x hx
          rw [htk] at hx
          rcases List.mem_append.1 hx with hx | hx
          · exact ho x hx
          · rw [List.mem_singleton.1 hx, e]; exact h), hpv, e]
        simp
      · rw [if_neg c, Bool.eq_false_iff.mpr c]; simp
    rw [drop_cons56 hlt]
    generalize hO : rd_T56 l (i : Int) = o at hrest
    have hrest := hrest o rfl
    have hnx := hnx o
    simp only [delta_Valid.l0]
    rw [if_pos (by omega), if_pos (by omega), if_pos (by omega), hO]
    have hbad : opV o = false → some false = some (opsV (prevV l i) (o :: l.drop (i + 1)) && (sumsV 0 0 l).isSome) := by
      intro h; unfold opsV; rw [h]; simp
    by_cases c1 : o.f0 = 1
    · rw [if_pos c1]
      simp only [delta_Valid.j1]
      rw [if_pos (by simp [c1])]
      by_cases c2 : o.f1 < 1
      · rw [if_pos c2]
        simp only [delta_Valid.j2]
        exact hbad (by unfold opV; rw [if_pos (.inl c1)]; simp; intro h; omega)
      · rw [if_neg c2]
        simp only [delta_Valid.j2]
        by_cases c3 : o.f2.toList = []
        · have hok : opV o = true := by unfold opV; rw [if_pos (.inl c1), c3]; simp; omega
          rw [c3, if_neg (by decide), hnx hok]
          exact hrest hok
        · rw [if_pos (by simpa using c3)]
          exact hbad (by unfold opV; rw [if_pos (.inl c1)]; simp [c3])
    · rw [if_neg c1]
      simp only [delta_Valid.j1]
      by_cases c0 : o.f0 = 3
      · rw [if_pos (by simp [c0])]
        by_cases c2 : o.f1 < 1
        · rw [if_pos c2]
          simp only [delta_Valid.j2]
          exact hbad (by unfold opV; rw [if_pos (.inr c0)]; simp; intro h; omega)
        · rw [if_neg c2]
          simp only [delta_Valid.j2]
          by_cases c3 : o.f2.toList = []
          · have hok : opV o = true := by unfold opV; rw [if_pos (.inr c0), c3]; simp; omega
            rw [c3, if_neg (by decide), hnx hok]
            exact hrest hok
          · rw [if_pos (by simpa using c3)]
            exact hbad (by unfold opV; rw [if_pos (.inr c0)]; simp [c3])
      · rw [if_neg (by simp [c0])]
        by_cases c4 : o.f0 = 2
        · rw [if_pos c4]
          by_cases c5 : o.f1 = 0
          · rw [if_pos c5]
            simp only [delta_Valid.j3]
            by_cases c6 : o.f2.toList = []
            · rw [if_pos (by simp [c6])]
              exact hbad (by unfold opV; rw [if_neg (by omega)]; simp [c6])
            · rw [if_neg (by simpa using c6)]
              have hok : opV o = true := by unfold opV; rw [if_neg (by omega)]; simp [c4, c5, c6]
              rw [hnx hok]
              exact hrest hok
          · rw [if_neg c5]
            simp only [delta_Valid.j3]
            exact hbad (by unfold opV; rw [if_neg (by omega)]; simp [c5])
        · rw [if_neg c4]
          exact hbad (by unfold opV; rw [if_neg (by omega)]; simp [c4])

theorem valid_tells (l : List S56) (hs : Sane l) (K : Nat) (hK : 6 * l.length + 1 < K) : delta_Valid.f K l = some (validV l) := by
  unfold delta_Valid.f validV
  have := valid_loop l hs l.length K 0 (by omega) (by omega) (by omega) (by simp)
  simpa [prevV] using this

/-- the last change's end is moved -/
def setHi (xs : List S99) (v : Int) : List S99 := xs.set (xs.length - 1) ⟨(xs.getD (xs.length - 1) z99).f0, v, (xs.getD (xs.length - 1) z99).f2⟩
theorem setHi_snoc (xs : List S99) (y : S99) (v : Int) : setHi (xs ++ [y]) v = xs ++ [⟨y.f0, v, y.f2⟩] := by
  unfold setHi
  simp

/-- one operation's step -/
def stepC (s : Int × Bool × List S99) (o : S56) : Int × Bool × List S99 :=
  if o.f0 = 2 then (s.1, true, s.2.2 ++ [⟨s.1, s.1, o.f2⟩])
  else if o.f0 = 1 then (s.1 + o.f1, false, s.2.2)
  else (s.1 + o.f1, true, if s.2.1 then setHi s.2.2 (s.1 + o.f1) else s.2.2 ++ [⟨s.1, s.1 + o.f1, ⟨#[]⟩⟩])
def stateC (l : List S56) : Int × Bool × List S99 := l.foldl stepC (0, false, [])
def changesV (l : List S56) : List S99 := (stateC l).2.2
theorem stateC_snoc (l : List S56) (o : S56) : stateC (l ++ [o]) = stepC (stateC l) o := by unfold stateC; rw [List.foldl_append]; rfl
theorem stepC_put (a : Int) (o : Bool) (xs : List S99) (f1 : Int) (f2 : ByteArray) : stepC (a, o, xs) ⟨2, f1, f2⟩ = (a, true, xs ++ [⟨a, a, f2⟩]) := by simp [stepC]
theorem stepC_keep (a : Int) (o : Bool) (xs : List S99) (f1 : Int) (f2 : ByteArray) : stepC (a, o, xs) ⟨1, f1, f2⟩ = (a + f1, false, xs) := by simp [stepC]
theorem stepC_drop0 (a : Int) (xs : List S99) (f1 : Int) (f2 : ByteArray) : stepC (a, false, xs) ⟨3, f1, f2⟩ = (a + f1, true, xs ++ [⟨a, a + f1, ⟨#[]⟩⟩]) := by simp [stepC]
theorem stepC_drop1 (a : Int) (xs : List S99) (y : S99) (f1 : Int) (f2 : ByteArray) : stepC (a, true, xs ++ [y]) ⟨3, f1, f2⟩ = (a + f1, true, xs ++ [⟨y.f0, a + f1, y.f2⟩]) := by simp [stepC, setHi_snoc]
/-- what of a canonical delta the walk wants: an operation's kind and number; where a text is put none is open; the sums are small -/
def Seen (l : List S56) : Prop := ∀ (k : Nat) (h : k < l.length), ((l[k].f0 = 2 ∧ l[k].f2.size ≤ 268435456) ∨ ((l[k].f0 = 1 ∨ l[k].f0 = 3) ∧ 1 ≤ l[k].f1)) ∧ (l[k].f0 = 2 → (stateC (l.take k)).2.1 = false) ∧
  ((stateC (l.take k)).2.1 = true → (stateC (l.take k)).2.2 ≠ []) ∧ (stateC (l.take k)).2.2.length ≤ k ∧ 0 ≤ (stateC (l.take k)).1 ∧ (stateC (l.take k)).1 ≤ 268435456 ∧ l[k].f1 ≤ 268435456


theorem setHi_length (xs : List S99) (v : Int) : (setHi xs v).length = xs.length := by simp [setHi]
theorem seen_from (l : List S56) : ∀ (p : Option S56) (f t : Int) (s : Int × Bool × List S99) (n : Nat) (ft : Int × Int), opsV p l = true → sumsV f t l = some ft → s.1 = f → 0 ≤ f → 0 ≤ t → f ≤ 268435456 → t ≤ 268435456 → (s.2.1 = true → s.2.2 ≠ []) → s.2.2.length ≤ n → ((match p with | none => true | some p => p.f0 == 1) = true → s.2.1 = false) → (∀ q, p = some q → opV q = true) →
    (l.length : Int) + f + t ≤ ft.1 + ft.2 ∧ ft.1 ≤ 268435456 ∧ ft.2 ≤ 268435456 ∧ (l.foldl stepC s).1 = ft.1 ∧ (l.foldl stepC s).2.2.length ≤ n + l.length ∧
    ∀ (k : Nat) (h : k < l.length), ((l[k].f0 = 2 ∧ l[k].f2.size ≤ 268435456) ∨ ((l[k].f0 = 1 ∨ l[k].f0 = 3) ∧ 1 ≤ l[k].f1)) ∧ (l[k].f0 = 2 → ((l.take k).foldl stepC s).2.1 = false) ∧
      (((l.take k).foldl stepC s).2.1 = true → ((l.take k).foldl stepC s).2.2 ≠ []) ∧ ((l.take k).foldl stepC s).2.2.length ≤ n + k ∧ 0 ≤ ((l.take k).foldl stepC s).1 ∧ ((l.take k).foldl stepC s).1 ≤ 268435456 ∧ l[k].f1 ≤ 268435456 := by
  induction l with
  | nil =>
    intro p f t s n ft _ hs hf _ _ hf1 ht1 _ hn _ _
    simp only [sumsV, Option.some.injEq] at hs
    subst hs
    refine ⟨by simp, hf1, ht1, hf, by simpa using hn, fun k h => absurd h (by simp)⟩
  | cons o l ih =>
    intro p f t s n ft ho hs hf h0 h1 hf1 ht1 hx hn hp hpq
    unfold opsV at ho
    rw [Bool.and_eq_true, Bool.and_eq_true] at ho
    obtain ⟨⟨ho1, ho2⟩, ho3⟩ := ho
    unfold sumsV at hs
    split at hs
    · rename_i hc
      obtain ⟨a, op, xs⟩ := s
      simp only at hf hx hn hp
      subst hf
      have key : ∀ (hN : 0 ≤ fromN o ∧ 0 ≤ toN o ∧ 1 ≤ fromN o + toN o ∧ o.f1 ≤ 268435456) (hk : (o.f0 = 2 ∧ o.f2.size ≤ 268435456) ∨ ((o.f0 = 1 ∨ o.f0 = 3) ∧ 1 ≤ o.f1)) (s2 : Int × Bool × List S99) (e2 : stepC (a, op, xs) o = s2) (h2 : o.f0 = 2 → op = false) (e3 : s2.1 = a + fromN o) (e4 : s2.2.1 = true → s2.2.2 ≠ []) (e5 : s2.2.2.length ≤ n + 1) (e6 : (o.f0 == 1) = true → s2.2.1 = false), _ := fun hN hk s2 e2 h2 e3 e4 e5 e6 => ih (some o) (a + fromN o) (t + toN o) s2 (n + 1) ft ho3 hs e3 (by omega) (by omega) hc.1 hc.2 e4 e5 e6 (fun q hq => by cases hq; exact ho1)
      have fin : ∀ (hN : 0 ≤ fromN o ∧ 0 ≤ toN o ∧ 1 ≤ fromN o + toN o ∧ o.f1 ≤ 268435456) (hk : (o.f0 = 2 ∧ o.f2.size ≤ 268435456) ∨ ((o.f0 = 1 ∨ o.f0 = 3) ∧ 1 ≤ o.f1)) (s2 : Int × Bool × List S99) (e2 : stepC (a, op, xs) o = s2) (h2 : o.f0 = 2 → op = false) (e3 : s2.1 = a + fromN o) (e4 : s2.2.1 = true → s2.2.2 ≠ []) (e5 : s2.2.2.length ≤ n + 1) (e6 : (o.f0 == 1) = true → s2.2.1 = false), _ := fun hN hk s2 e2 h2 e3 e4 e5 e6 => by
        obtain ⟨g1, g2, g3, g4, g5, g6⟩ := key hN hk s2 e2 h2 e3 e4 e5 e6
        refine (show (((o :: l).length : Int) + a + t ≤ ft.1 + ft.2 ∧ ft.1 ≤ 268435456 ∧ ft.2 ≤ 268435456 ∧ ((o :: l).foldl stepC (a, op, xs)).1 = ft.1 ∧ ((o :: l).foldl stepC (a, op, xs)).2.2.length ≤ n + (o :: l).length ∧
          ∀ (k : Nat) (h : k < (o :: l).length), (((o :: l)[k].f0 = 2 ∧ (o :: l)[k].f2.size ≤ 268435456) ∨ (((o :: l)[k].f0 = 1 ∨ (o :: l)[k].f0 = 3) ∧ 1 ≤ (o :: l)[k].f1)) ∧ ((o :: l)[k].f0 = 2 → (((o :: l).take k).foldl stepC (a, op, xs)).2.1 = false) ∧
          ((((o :: l).take k).foldl stepC (a, op, xs)).2.1 = true → (((o :: l).take k).foldl stepC (a, op, xs)).2.2 ≠ []) ∧ (((o :: l).take k).foldl stepC (a, op, xs)).2.2.length ≤ n + k ∧ 0 ≤ (((o :: l).take k).foldl stepC (a, op, xs)).1 ∧ (((o :: l).take k).foldl stepC (a, op, xs)).1 ≤ 268435456 ∧ (o :: l)[k].f1 ≤ 268435456) from ?_)
        have hlen : ((o :: l).length : Int) = l.length + 1 := by simp
        have hlen2 : (o :: l).length = l.length + 1 := by simp
        rw [List.foldl_cons, e2]
        refine ⟨by omega, g2, g3, g4, by omega, fun k h => ?_⟩
        cases k with
        | zero => exact ⟨hk, h2, hx, hn, h0, hf1, hN.2.2.2⟩
        | succ k =>
          have := g6 k (by simpa using h)
          rw [List.take_succ_cons, List.foldl_cons, e2, List.getElem_cons_succ]
          refine ⟨this.1, this.2.1, this.2.2.1, by have := this.2.2.2.1; omega, this.2.2.2.2⟩
      rcases opV_cases ho1 with ⟨k0, k1, -⟩ | ⟨k0, k1, -⟩ | ⟨k0, k1, -, k3⟩
      · have e1 : fromN o = o.f1 := by unfold fromN; rw [if_neg (by omega)]
        have e2 : toN o = o.f1 := by unfold toN; rw [if_neg (by omega), if_neg (by omega)]
        refine fin (by omega) (.inr ⟨.inl k0, k1⟩) (a + o.f1, false, xs) (by simp [stepC, k0]) (by omega) (by simp [e1]) (by simp) (by simp only; omega) (by simp)
      · have e1 : fromN o = o.f1 := by unfold fromN; rw [if_neg (by omega)]
        have e2 : toN o = 0 := by unfold toN; rw [if_pos (by omega)]
        refine fin (by omega) (.inr ⟨.inr k0, k1⟩) (a + o.f1, true, if op then setHi xs (a + o.f1) else xs ++ [⟨a, a + o.f1, ⟨#[]⟩⟩]) (by simp [stepC, k0]) (by omega) (by simp [e1]) ?_ ?_ (by simp [k0])
        · intro _
          cases op with
          | false => simp
          | true =>
            intro e
            have : (setHi xs (a + o.f1)).length = 0 := by
              simp only [if_true] at e
              rw [e]; rfl
            rw [setHi_length] at this
            exact hx rfl (List.length_eq_zero_iff.1 this)
        · cases op with
          | false => simp; omega
          | true => simp [setHi_length]; omega
      · have e1 : fromN o = 0 := by unfold fromN; rw [if_pos (by omega)]
        have e2 : toN o = (o.f2.size : Int) := by unfold toN; rw [if_neg (by omega), if_pos (by omega)]
        have hop : op = false := by
          apply hp
          cases p with
          | none => rfl
          | some p =>
            have hq := opV_cases (hpq p rfl)
            unfold nextV at ho2
            rw [k0] at ho2
            rcases hq with ⟨q, -⟩ | ⟨q, -⟩ | ⟨q, -⟩
            · simp [q]
            · simp [q] at ho2
            · simp [q] at ho2
        refine fin (by omega) (.inl ⟨k0, by omega⟩) (a, true, xs ++ [⟨a, a, o.f2⟩]) (by simp [stepC, k0]) (fun _ => hop) (by simp [e1]) (by simp) (by simp; omega) (by simp [k0])
    · cases hs

theorem fromN_nonneg {o : S56} (h : opV o = true) : 0 ≤ fromN o ∧ 0 ≤ toN o := by
  unfold fromN toN
  rcases opV_cases h with ⟨k0, k1, -⟩ | ⟨k0, k1, -⟩ | ⟨k0, k1, -, k3⟩ <;> simp [k0] <;> omega
theorem sums_mono : ∀ (l : List S56) (p : Option S56) (f t : Int) (ft : Int × Int), opsV p l = true → sumsV f t l = some ft → f ≤ ft.1 ∧ t ≤ ft.2
  | [], _, f, t, ft, _, h => by
    simp only [sumsV, Option.some.injEq] at h
    subst h
    exact ⟨Int.le_refl _, Int.le_refl _⟩
  | o :: l, p, f, t, ft, ho, h => by
    unfold opsV at ho
    rw [Bool.and_eq_true, Bool.and_eq_true] at ho
    unfold sumsV at h
    split at h
    · have := sums_mono l (some o) _ _ ft ho.2 h
      have := fromN_nonneg ho.1.1
      omega
    · cases h
theorem seen_of_valid {l : List S56} (h : validV l = true) : Seen l ∧ ∃ ft, sumsV 0 0 l = some ft ∧ (l.length : Int) ≤ ft.1 + ft.2 ∧ 0 ≤ ft.1 ∧ 0 ≤ ft.2 ∧ ft.1 ≤ 268435456 ∧ ft.2 ≤ 268435456 ∧ (stateC l).1 = ft.1 ∧ (changesV l).length ≤ l.length := by
  unfold validV at h
  rw [Bool.and_eq_true] at h
  obtain ⟨h1, h2⟩ := h
  obtain ⟨ft, hft⟩ := Option.isSome_iff_exists.1 h2
  obtain ⟨g1, g2, g3, g4, g5, g6⟩ := seen_from l none 0 0 (0, false, []) 0 ft h1 hft rfl (by omega) (by omega) (by omega) (by omega) (by simp) (by simp) (by simp) (by simp)
  have gm := sums_mono l none 0 0 ft h1 hft
  refine ⟨fun k hk => ?_, ft, hft, by omega, gm.1, gm.2, g2, g3, g4, by unfold changesV stateC; simpa using g5⟩
  have := g6 k hk
  simpa [stateC] using this
theorem valid_some {k : Nat} {l : List S56} {b : Bool} (hs : Sane l) (h : delta_Valid.f k l = some b) : b = validV l := by
  obtain ⟨j, h1, h2⟩ := together (delta_Valid.mono l) (delta_Valid.mono l) ⟨k, h⟩ ⟨_, valid_tells l hs (6 * l.length + 2) (by omega)⟩
  rw [h1] at h2
  exact Option.some.inj h2

def saneB (l : List S56) : Bool := decide (l.length ≤ 4398046511104) && l.all (fun o => decide (o.f2.size ≤ 140737488355328) && decide (-9223372036854775808 ≤ o.f1) && decide (o.f1 ≤ 9223372036854775807))
theorem saneB_iff (l : List S56) : saneB l = true ↔ Sane l := by
  unfold saneB Sane
  simp only [Bool.and_eq_true, decide_eq_true_eq, List.all_eq_true]
  exact ⟨fun h => ⟨h.1, fun o ho => ⟨(h.2 o ho).1.1, (h.2 o ho).1.2, (h.2 o ho).2⟩⟩, fun h => ⟨h.1, fun o ho => ⟨⟨(h.2 o ho).1, (h.2 o ho).2.1⟩, (h.2 o ho).2.2⟩⟩⟩
end Go.Proofs.Ytjladdjpnicldaa.PA
