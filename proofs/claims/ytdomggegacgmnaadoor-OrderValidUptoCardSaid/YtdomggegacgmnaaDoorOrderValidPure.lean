/- Plain law: OrderValid's function answers true. Condition: at most 2^20 bytes each, all of them from 0 to 255. -/
import Derived.Test.YtdomggegacgmnaaDoorPAx13
import Derived.Test.YtdomggegacgmnaaDoorRefThings
/-! The three orders of texts that are made of runes: bytes and runes agree; units turn just where a rune from E000 to FFFF meets one above. -/
namespace Go.Proofs.YtdomggegacgmnaaDoor.orders
open Go.RowKit PA Go.Proofs.YtdomggegacgmnaaDoorW.PrintWords Go.Proofs.YtdomggegacgmnaaDoorW.PrintLast Go.Proofs.YtdomggegacgmnaaDoorW.PrintMore
set_option linter.unusedVariables false

/-- a rune's bytes -/
def encL (r : Int) : List Int :=
  if r < 128 then [r] else if r < 2048 then [192 + r / 64, 128 + r % 64]
  else if r < 65536 then [224 + r / 4096, 128 + r / 64 % 64, 128 + r % 64]
  else [240 + r / 262144, 128 + r / 4096 % 64, 128 + r / 64 % 64, 128 + r % 64]
def okR (r : Int) : Prop := (0 ≤ r ∧ r < 55296) ∨ (57343 < r ∧ r ≤ 1114111)
theorem cmp_lt (x y : Int) (u v : List Int) (h : x < y) : cmpL (x :: u) (y :: v) = -1 := by rw [cmpL, if_pos h]
theorem cmp_gt (x y : Int) (u v : List Int) (h : y < x) : cmpL (x :: u) (y :: v) = 1 := by rw [cmpL, if_neg (by omega), if_pos h]
theorem cmp_eq (x y : Int) (u v : List Int) (h : x = y) : cmpL (x :: u) (y :: v) = cmpL u v := by rw [cmpL, if_neg (by omega), if_neg (by omega)]
theorem cmp_app : ∀ p u v : List Int, cmpL (p ++ u) (p ++ v) = cmpL u v
  | [], u, v => rfl
  | x :: p, u, v => by rw [List.cons_append, List.cons_append, cmp_eq _ _ _ _ rfl, cmp_app p]
theorem enc_lt (r s : Int) (hr : okR r) (hs : okR s) (h : r < s) (u v : List Int) : cmpL (encL r ++ u) (encL s ++ v) = -1 := by
  unfold okR at hr hs
  unfold encL
  by_cases a1 : r < 128
  · rw [if_pos a1]
    by_cases b1 : s < 128
    · rw [if_pos b1]; exact cmp_lt _ _ _ _ h
    · rw [if_neg b1]
      by_cases b2 : s < 2048
      · rw [if_pos b2]; exact cmp_lt _ _ _ _ (by omega)
      · rw [if_neg b2]
        by_cases b3 : s < 65536
        · rw [if_pos b3]; exact cmp_lt _ _ _ _ (by omega)
        · rw [if_neg b3]; exact cmp_lt _ _ _ _ (by omega)
  · rw [if_neg a1, if_neg (by omega : ¬ s < 128)]
    by_cases a2 : r < 2048
    · rw [if_pos a2]
      by_cases b2 : s < 2048
      · rw [if_pos b2]
        simp only [List.cons_append, List.nil_append]
        by_cases e : r / 64 = s / 64
        · rw [cmp_eq _ _ _ _ (by omega)]; exact cmp_lt _ _ _ _ (by omega)
        · exact cmp_lt _ _ _ _ (by omega)
      · rw [if_neg b2]
        by_cases b3 : s < 65536
        · rw [if_pos b3]; exact cmp_lt _ _ _ _ (by omega)
        · rw [if_neg b3]; exact cmp_lt _ _ _ _ (by omega)
    · rw [if_neg a2, if_neg (by omega : ¬ s < 2048)]
      by_cases a3 : r < 65536
      · rw [if_pos a3]
        by_cases b3 : s < 65536
        · rw [if_pos b3]
          simp only [List.cons_append, List.nil_append]
          by_cases e : r / 4096 = s / 4096
          · rw [cmp_eq _ _ _ _ (by omega)]
            by_cases e2 : r / 64 % 64 = s / 64 % 64
            · rw [cmp_eq _ _ _ _ (by omega)]; exact cmp_lt _ _ _ _ (by omega)
            · exact cmp_lt _ _ _ _ (by omega)
          · exact cmp_lt _ _ _ _ (by omega)
        · rw [if_neg b3]; exact cmp_lt _ _ _ _ (by omega)
      · rw [if_neg a3, if_neg (by omega : ¬ s < 65536)]
        simp only [List.cons_append, List.nil_append]
        by_cases e : r / 262144 = s / 262144
        · rw [cmp_eq _ _ _ _ (by omega)]
          by_cases e1 : r / 4096 % 64 = s / 4096 % 64
          · rw [cmp_eq _ _ _ _ (by omega)]
            by_cases e2 : r / 64 % 64 = s / 64 % 64
            · rw [cmp_eq _ _ _ _ (by omega)]; exact cmp_lt _ _ _ _ (by omega)
            · exact cmp_lt _ _ _ _ (by omega)
          · exact cmp_lt _ _ _ _ (by omega)
        · exact cmp_lt _ _ _ _ (by omega)
/-- do the units turn? -/
def turned (r s : Int) : Prop := (57343 < r ∧ r < 65536 ∧ 65535 < s) ∨ (57343 < s ∧ s < 65536 ∧ 65535 < r)
instance (r s : Int) : Decidable (turned r s) := by unfold turned; infer_instance
theorem u16_id (n : Int) (a : 0 ≤ n) (b : n < 65536) : IntKind.u16.wrap n = n := by simp [IntKind.wrap, IntKind.bits, IntKind.signed]; omega
theorem unit_lt (r s : Int) (hr : okR r) (hs : okR s) (h : r < s) (u v : List Int) : cmpL (unitsR r ++ u) (unitsR s ++ v) = if turned r s then 1 else -1 := by
  unfold okR at hr hs
  unfold unitsR
  by_cases a : 65535 < r
  · rw [if_pos ⟨a, by omega⟩, if_pos ⟨by omega, by omega⟩, if_neg (by unfold turned; omega)]
    simp only [List.cons_append, List.nil_append]
    by_cases e : (r - 65536) / 1024 = (s - 65536) / 1024
    · rw [cmp_eq _ _ _ _ (by omega)]; exact cmp_lt _ _ _ _ (by omega)
    · exact cmp_lt _ _ _ _ (by omega)
  · rw [if_neg (by omega), u16_id r (by omega) (by omega)]
    by_cases b : 65535 < s
    · rw [if_pos ⟨b, by omega⟩]
      by_cases c : 57343 < r
      · rw [if_pos (show turned r s from Or.inl ⟨c, by omega, b⟩)]; exact cmp_gt _ _ _ _ (by omega)
      · rw [if_neg (by unfold turned; omega)]; exact cmp_lt _ _ _ _ (by omega)
    · rw [if_neg (by omega), u16_id s (by omega) (by omega), if_neg (by unfold turned; omega)]; exact cmp_lt _ _ _ _ h
/-- the first runes that differ -/
def fd : List Int → List Int → Option (Int × Int)
  | x :: xs, y :: ys => if x = y then fd xs ys else some (x, y)
  | _, _ => none
theorem three : ∀ xs ys : List Int, (∀ x ∈ xs, okR x) → (∀ y ∈ ys, okR y) →
    cmpL (xs.flatMap encL) (ys.flatMap encL) = cmpL xs ys ∧
    (∀ r s, fd xs ys = some (r, s) → cmpL xs ys ≠ 0 ∧ cmpL (xs.flatMap unitsR) (ys.flatMap unitsR) = if turned r s then -cmpL xs ys else cmpL xs ys) ∧
    (fd xs ys = none → cmpL (xs.flatMap unitsR) (ys.flatMap unitsR) = cmpL xs ys)
  | [], [], _, _ => ⟨rfl, fun r s h => by simp [fd] at h, fun _ => rfl⟩
  | [], y :: ys, _, _ => by
    refine ⟨?_, fun r s h => by simp [fd] at h, fun _ => ?_⟩
    · have : ∃ a t, (y :: ys).flatMap encL = a :: t := by
        rw [List.flatMap_cons]; unfold encL
        split
        · exact ⟨_, _, rfl⟩
        · split
          · exact ⟨_, _, rfl⟩
          · split <;> exact ⟨_, _, rfl⟩
      obtain ⟨a, t, e⟩ := this
      rw [e]; rfl
    · have : ∃ a t, (y :: ys).flatMap unitsR = a :: t := by
        rw [List.flatMap_cons]; unfold unitsR
        split <;> exact ⟨_, _, rfl⟩
      obtain ⟨a, t, e⟩ := this
      rw [e]; rfl
  | x :: xs, [], _, _ => by
    refine ⟨?_, fun r s h => by simp [fd] at h, fun _ => ?_⟩
    · have : ∃ a t, (x :: xs).flatMap encL = a :: t := by
        rw [List.flatMap_cons]; unfold encL
        split
        · exact ⟨_, _, rfl⟩
        · split
          · exact ⟨_, _, rfl⟩
          · split <;> exact ⟨_, _, rfl⟩
      obtain ⟨a, t, e⟩ := this
      rw [e]; rfl
    · have : ∃ a t, (x :: xs).flatMap unitsR = a :: t := by
        rw [List.flatMap_cons]; unfold unitsR
        split <;> exact ⟨_, _, rfl⟩
      obtain ⟨a, t, e⟩ := this
      rw [e]; rfl
  | x :: xs, y :: ys, hx, hy => by
    have ox := hx x (by simp)
    have oy := hy y (by simp)
    simp only [List.flatMap_cons]
    by_cases e : x = y
    · subst e
      have ih := three xs ys (fun z hz => hx z (by simp [hz])) (fun z hz => hy z (by simp [hz]))
      rw [cmp_app, cmp_app, cmp_eq _ _ _ _ rfl]
      rw [show fd (x :: xs) (x :: ys) = fd xs ys by rw [fd, if_pos rfl]]
      exact ih
    · have hf : fd (x :: xs) (y :: ys) = some (x, y) := by rw [fd, if_neg e]
      rw [hf]
      have ts : turned y x ↔ turned x y := by unfold turned; omega
      by_cases h : x < y
      · rw [enc_lt x y ox oy h, cmp_lt _ _ _ _ h, unit_lt x y ox oy h]
        refine ⟨rfl, fun r s hrs => ?_, fun hn => by cases hn⟩
        obtain ⟨rfl, rfl⟩ : x = r ∧ y = s := by simpa using hrs
        exact ⟨by omega, by split <;> rfl⟩
      · have h2 : y < x := by omega
        have flip : ∀ a b : List Int, cmpL a b = -cmpL b a := by
          intro a
          induction a with
          | nil => intro b; cases b <;> rfl
          | cons p ps ih =>
            intro b
            cases b with
            | nil => rfl
            | cons q qs =>
              rw [cmpL, cmpL]
              by_cases g1 : p < q
              · rw [if_pos g1, if_neg (by omega), if_pos (by omega)]
              · rw [if_neg g1]
                by_cases g2 : p > q
                · rw [if_pos g2, if_pos (by omega)]; rfl
                · rw [if_neg g2, if_neg (by omega), if_neg (by omega)]; exact ih qs
        rw [flip (encL x ++ _), enc_lt y x oy ox h2, cmp_gt _ _ _ _ h2, flip (unitsR x ++ _), unit_lt y x oy ox h2]
        refine ⟨rfl, fun r s hrs => ?_, fun hn => by cases hn⟩
        obtain ⟨rfl, rfl⟩ : x = r ∧ y = s := by simpa using hrs
        refine ⟨by omega, ?_⟩
        by_cases t : turned x y
        · rw [if_pos (ts.2 t), if_pos t]
        · rw [if_neg (fun g => t (ts.1 g)), if_neg t]; rfl
end Go.Proofs.YtdomggegacgmnaaDoor.orders
namespace Go.Proofs.YtdomggegacgmnaaDoor.valid
open Go.RowKit PA ref orders Go.Proofs.YtdomggegacgmnaaDoorW.PrintWords Go.Proofs.YtdomggegacgmnaaDoorW.PrintLast Go.Proofs.YtdomggegacgmnaaDoorW.PrintMore

/-- every step is whole -/
def wholeT (l : List Int) : Bool := (pos l (l.length + 1) 0).all fun q => (atS l q).2.2
theorem valid_l (T : List S60) (hT : T.length ≤ 1048576) : ∀ (n i k : Nat), n = T.length - i → i ≤ T.length → n + 1 ≤ k → galleyref02_Valid.l0 k T i = some ((T.drop i).all fun x => x.f2)
  | n, i, 0, h1, h2, hk => by omega
  | n, i, k + 1, h1, h2, hk => by
    have ew : wrap64 ((i : Int) + 1) = ((i + 1 : Nat) : Int) := by unfold wrap64; omega
    rw [galleyref02_Valid.l0, ew]
    by_cases c : i < T.length
    · have hr : rd_T60 T (i : Int) = T[i] := by simp [rd_T60, List.getD_eq_getElem?_getD, c]
      rw [if_pos (by omega), if_pos (by omega), hr, List.drop_eq_getElem_cons c, List.all_cons]
      by_cases f : T[i].f2 = true
      · rw [if_pos f, f, Bool.true_and]
        match n, h1 with
        | 0, h1 => omega
        | n + 1, h1 => exact valid_l T hT n (i + 1) k (by omega) (by omega) (by omega)
      · rw [if_neg f, show T[i].f2 = false by simpa using f, Bool.false_and]
    · rw [if_neg (by omega), List.drop_eq_nil_of_le (by omega)]; rfl
theorem valid_f (l : List Int) (w : ∀ x ∈ l, 0 ≤ x ∧ x ≤ 255) (hm : l.length ≤ 1048576) (k : Nat) (hk : l.length + 16 ≤ k) : galleyref02_Valid.f k l = some (wholeT l) := by
  unfold galleyref02_Valid.f wholeT
  rw [steps_f l w hm k hk, Option.bind_some]
  have hl := pos_len l (l.length + 1) 0
  have := valid_l ((pos l (l.length + 1) 0).map fun q => toS (atS l q)) (by simp; omega) (pos l (l.length + 1) 0).length 0 k (by simp) (by omega) (by omega)
  rw [show ((0 : Nat) : Int) = 0 from rfl] at this
  rw [this, List.drop_zero, List.all_map]
  rfl

/-- a whole step's bytes are its rune's -/
theorem enc_wN (n b0 b1 b2 b3 : Nat) (h0 : b0 < 256) (h1 : b1 < 256) (h2 : b2 < 256) (h3 : b3 < 256) (h : 0 < wN n b0 b1 b2 b3) :
    encL ((rN (wN n b0 b1 b2 b3) b0 b1 b2 b3 : Nat) : Int) = ([(b0 : Int), b1, b2, b3].take (wN n b0 b1 b2 b3)) ∧ okR ((rN (wN n b0 b1 b2 b3) b0 b1 b2 b3 : Nat) : Int) := by
  obtain ⟨w, hw⟩ : ∃ w, w = wN n b0 b1 b2 b3 := ⟨_, rfl⟩
  rw [← hw] at h ⊢
  unfold wN at hw
  unfold okR encL
  by_cases c1 : b0 < 128
  · rw [if_pos c1] at hw
    subst hw
    rw [show rN 1 b0 b1 b2 b3 = b0 by simp [rN], if_pos (by omega)]
    exact ⟨rfl, by omega⟩
  · rw [if_neg c1] at hw
    by_cases c2 : 194 ≤ b0 ∧ b0 ≤ 223 ∧ 1 < n ∧ 128 ≤ b1 ∧ b1 ≤ 191
    · rw [if_pos c2] at hw
      subst hw
      rw [show rN 2 b0 b1 b2 b3 = b0 % 32 * 64 + b1 % 64 by simp [rN], if_neg (by omega), if_pos (by omega)]
      refine ⟨?_, by omega⟩
      rw [show 192 + ((b0 % 32 * 64 + b1 % 64 : Nat) : Int) / 64 = b0 by omega, show 128 + ((b0 % 32 * 64 + b1 % 64 : Nat) : Int) % 64 = b1 by omega]; rfl
    · rw [if_neg c2] at hw
      by_cases c3 : 2 < n ∧ 128 ≤ b2 ∧ b2 ≤ 191 ∧ ((b0 = 224 ∧ 160 ≤ b1 ∧ b1 ≤ 191) ∨ (225 ≤ b0 ∧ b0 ≤ 236 ∧ 128 ≤ b1 ∧ b1 ≤ 191) ∨ (b0 = 237 ∧ 128 ≤ b1 ∧ b1 ≤ 159) ∨ (238 ≤ b0 ∧ b0 ≤ 239 ∧ 128 ≤ b1 ∧ b1 ≤ 191))
      · rw [if_pos c3] at hw
        subst hw
        rw [show rN 3 b0 b1 b2 b3 = b0 % 16 * 4096 + b1 % 64 * 64 + b2 % 64 by simp [rN], if_neg (by omega), if_neg (by omega), if_pos (by omega)]
        refine ⟨?_, by omega⟩
        rw [show 224 + ((b0 % 16 * 4096 + b1 % 64 * 64 + b2 % 64 : Nat) : Int) / 4096 = b0 by omega, show 128 + ((b0 % 16 * 4096 + b1 % 64 * 64 + b2 % 64 : Nat) : Int) / 64 % 64 = b1 by omega, show 128 + ((b0 % 16 * 4096 + b1 % 64 * 64 + b2 % 64 : Nat) : Int) % 64 = b2 by omega]; rfl
      · rw [if_neg c3] at hw
        by_cases c4 : 3 < n ∧ 128 ≤ b2 ∧ b2 ≤ 191 ∧ 128 ≤ b3 ∧ b3 ≤ 191 ∧ ((b0 = 240 ∧ 144 ≤ b1 ∧ b1 ≤ 191) ∨ (241 ≤ b0 ∧ b0 ≤ 243 ∧ 128 ≤ b1 ∧ b1 ≤ 191) ∨ (b0 = 244 ∧ 128 ≤ b1 ∧ b1 ≤ 143))
        · rw [if_pos c4] at hw
          subst hw
          rw [show rN 4 b0 b1 b2 b3 = b0 % 8 * 262144 + b1 % 64 * 4096 + b2 % 64 * 64 + b3 % 64 by simp [rN], if_neg (by omega), if_neg (by omega), if_neg (by omega)]
          refine ⟨?_, by omega⟩
          rw [show 240 + ((b0 % 8 * 262144 + b1 % 64 * 4096 + b2 % 64 * 64 + b3 % 64 : Nat) : Int) / 262144 = b0 by omega, show 128 + ((b0 % 8 * 262144 + b1 % 64 * 4096 + b2 % 64 * 64 + b3 % 64 : Nat) : Int) / 4096 % 64 = b1 by omega, show 128 + ((b0 % 8 * 262144 + b1 % 64 * 4096 + b2 % 64 * 64 + b3 % 64 : Nat) : Int) / 64 % 64 = b2 by omega, show 128 + ((b0 % 8 * 262144 + b1 % 64 * 4096 + b2 % 64 * 64 + b3 % 64 : Nat) : Int) % 64 = b3 by omega]; rfl
        · rw [if_neg c4] at hw
          omega
theorem B_get (l : List Int) (w : ∀ x ∈ l, 0 ≤ x ∧ x ≤ 255) (q : Nat) (h : q < l.length) : l[q] = (B l q : Int) := by
  have := rdB l w q h
  rw [← this]; simp [rd, List.getD_eq_getElem?_getD, h]
theorem step_bytes (l : List Int) (w : ∀ x ∈ l, 0 ≤ x ∧ x ≤ 255) (q : Nat) (h : q < l.length) (hb : (atS l q).2.2 = true) :
    l.drop q = encL (atS l q).1 ++ l.drop (q + stepW l q) ∧ okR (atS l q).1 := by
  rw [atS_eq l q h] at hb ⊢
  by_cases c : wAt l q = 0
  · rw [if_pos c] at hb; cases hb
  · rw [if_neg c]
    have e := enc_wN (l.length - q) (B l q) (B l (q + 1)) (B l (q + 2)) (B l (q + 3)) (B_lt _ _) (B_lt _ _) (B_lt _ _) (B_lt _ _) (Nat.pos_of_ne_zero c)
    have hle := wN_le (l.length - q) (B l q) (B l (q + 1)) (B l (q + 2)) (B l (q + 3)) (by omega)
    have h4 := wN_range (l.length - q) (B l q) (B l (q + 1)) (B l (q + 2)) (B l (q + 3))
    have hw : wAt l q = wN (l.length - q) (B l q) (B l (q + 1)) (B l (q + 2)) (B l (q + 3)) := rfl
    have hs : stepW l q = wAt l q := by unfold stepW; rw [if_neg c]
    unfold rAt
    rw [hs]
    rw [← hw] at e hle h4
    refine ⟨?_, e.2⟩
    rw [e.1]
    generalize wAt l q = n at *
    rcases (by omega : n = 1 ∨ n = 2 ∨ n = 3 ∨ n = 4) with rfl | rfl | rfl | rfl
    · rw [List.drop_eq_getElem_cons h, B_get l w q h]; rfl
    · rw [List.drop_eq_getElem_cons h, B_get l w q h, List.drop_eq_getElem_cons (by omega : q + 1 < l.length), B_get l w (q + 1) (by omega)]; rfl
    · rw [List.drop_eq_getElem_cons h, B_get l w q h, List.drop_eq_getElem_cons (by omega : q + 1 < l.length), B_get l w (q + 1) (by omega), List.drop_eq_getElem_cons (by omega : q + 1 + 1 < l.length), B_get l w (q + 1 + 1) (by omega)]; rfl
    · rw [List.drop_eq_getElem_cons h, B_get l w q h, List.drop_eq_getElem_cons (by omega : q + 1 < l.length), B_get l w (q + 1) (by omega), List.drop_eq_getElem_cons (by omega : q + 1 + 1 < l.length), B_get l w (q + 1 + 1) (by omega), List.drop_eq_getElem_cons (by omega : q + 1 + 1 + 1 < l.length), B_get l w (q + 1 + 1 + 1) (by omega)]; rfl
theorem whole_from (l : List Int) (w : ∀ x ∈ l, 0 ≤ x ∧ x ≤ 255) : ∀ f p, l.length - p < f → p ≤ l.length → (∀ q ∈ pos l f p, (atS l q).2.2 = true) →
    l.drop p = ((pos l f p).map fun q => (atS l q).1).flatMap encL ∧ ∀ x ∈ (pos l f p).map (fun q => (atS l q).1), okR x
  | 0, p, h, _, _ => by omega
  | f + 1, p, h, hp, hw => by
    rw [pos] at hw ⊢
    by_cases c : p < l.length
    · rw [if_pos c] at hw ⊢
      have h1 := stepW_pos l p
      have hle := stepW_le l p c
      have s := step_bytes l w p c (hw p (by simp))
      have ih := whole_from l w f (p + stepW l p) (by omega) hle (fun q hq => hw q (by simp [hq]))
      rw [List.map_cons, List.flatMap_cons, ← ih.1]
      exact ⟨s.1, fun x hx => by
        rcases List.mem_cons.1 hx with rfl | hx
        · exact s.2
        · exact ih.2 x hx⟩
    · rw [if_neg c, List.drop_eq_nil_of_le (by omega)]
      exact ⟨rfl, fun x hx => by simp at hx⟩
theorem whole_runes (l : List Int) (w : ∀ x ∈ l, 0 ≤ x ∧ x ≤ 255) (h : wholeT l = true) : l = (runesOf l).flatMap encL ∧ ∀ x ∈ runesOf l, okR x := by
  rw [runes_of]
  have := whole_from l w (l.length + 1) 0 (by omega) (by omega) (by unfold wholeT at h; rw [List.all_eq_true] at h; exact h)
  rw [List.drop_zero] at this
  exact ⟨this.1, this.2⟩
/-- the first runes that differ, found -/
theorem apart_l (x y : List Int) (hx : x.length ≤ 1048576) : ∀ (n i k : Nat), n = x.length - i → i ≤ x.length → i ≤ y.length → 2 * n + 2 ≤ k →
    galleylaw31_apart.l0 k x y i = some (match fd (x.drop i) (y.drop i) with | some (r, s) => (r, s, true) | none => (0, 0, false))
  | n, i, 0, h1, h2, h3, hk => by omega
  | n, i, 1, h1, h2, h3, hk => by omega
  | n, i, k + 2, h1, h2, h3, hk => by
    have ew : wrap64 ((i : Int) + 1) = ((i + 1 : Nat) : Int) := by unfold wrap64; omega
    rw [galleylaw31_apart.l0]
    by_cases c : i < x.length
    · rw [if_pos (by omega)]
      by_cases d : i < y.length
      · rw [decide_eq_true (by omega), galleylaw31_apart.j1, if_pos rfl, if_pos (by omega), if_pos (by omega), if_pos (by omega), ew]
        have rx : rd x (i : Int) = x[i] := by simp [rd, List.getD_eq_getElem?_getD, c]
        have ry : rd y (i : Int) = y[i] := by simp [rd, List.getD_eq_getElem?_getD, d]
        rw [rx, ry, List.drop_eq_getElem_cons c, List.drop_eq_getElem_cons d, fd]
        by_cases e : x[i] = y[i]
        · rw [if_pos e, if_pos e]
          match n, h1 with
          | 0, h1 => omega
          | n + 1, h1 => exact apart_l x y hx n (i + 1) k (by omega) (by omega) (by omega) (by omega)
        · rw [if_neg e, if_neg e]
      · rw [decide_eq_false (by omega), galleylaw31_apart.j1, if_neg (by simp), List.drop_eq_nil_of_le (by omega : y.length ≤ i)]
        rw [List.drop_eq_getElem_cons c]; rfl
    · rw [if_neg (by omega), galleylaw31_apart.j1, if_neg (by simp), List.drop_eq_nil_of_le (by omega : x.length ≤ i)]
      rfl
theorem apart_f (a b : List Int) (wa : ∀ x ∈ a, 0 ≤ x ∧ x ≤ 255) (wb : ∀ x ∈ b, 0 ≤ x ∧ x ≤ 255) (ha : a.length ≤ 1048576) (hb : b.length ≤ 1048576) (k : Nat) (hk : 8388608 ≤ k) :
    galleylaw31_apart.f k a b = some (match fd (runesOf a) (runesOf b) with | some (r, s) => (r, s, true) | none => (0, 0, false)) := by
  unfold galleylaw31_apart.f
  rw [things_f a wa ha 2 (by omega) k (by omega), things_f b wb hb 2 (by omega) k (by omega), Option.bind_some, Option.bind_some]
  have hr := runesOf_le a
  have := apart_l (thingsV a 2) (thingsV b 2) (by show (runesOf a).length ≤ _; omega) (thingsV a 2).length 0 k (by omega) (by omega) (by omega) (by show 2 * (runesOf a).length + 2 ≤ k; omega)
  rw [show ((0 : Nat) : Int) = 0 from rfl] at this
  rw [this]; rfl
theorem class_f (r : Int) : galleylaw31_class.f r = some (if r < 55296 then 1 else if r < 65536 then 2 else 3) := by
  unfold galleylaw31_class.f
  repeat' split
  all_goals first | rfl | omega
theorem class_sum (r s : Int) (hr : okR r) (hs : okR s) : ((wrap64 ((if r < 55296 then 1 else if r < 65536 then 2 else 3) + (if s < 55296 then 1 else if s < 65536 then 2 else 3))) == 5) = decide (turned r s) := by
  unfold okR at hr hs
  have : (wrap64 ((if r < 55296 then 1 else if r < 65536 then 2 else 3) + (if s < 55296 then 1 else if s < 65536 then 2 else 3)) = 5) ↔ turned r s := by
    unfold turned wrap64
    repeat' split
    all_goals omega
  by_cases c : turned r s
  · rw [decide_eq_true c]; simpa using this.2 c
  · rw [decide_eq_false c]; simpa using fun h => c (this.1 h)
theorem fd_in : ∀ (xs ys : List Int) (r s : Int), fd xs ys = some (r, s) → r ∈ xs ∧ s ∈ ys
  | [], _, r, s, h => by simp [fd] at h
  | _ :: _, [], r, s, h => by simp [fd] at h
  | x :: xs, y :: ys, r, s, h => by
    rw [fd] at h
    by_cases e : x = y
    · rw [if_pos e] at h
      have := fd_in xs ys r s h
      exact ⟨by simp [this.1], by simp [this.2]⟩
    · rw [if_neg e] at h
      obtain ⟨rfl, rfl⟩ : x = r ∧ y = s := by simpa using h
      exact ⟨by simp, by simp⟩
end Go.Proofs.YtdomggegacgmnaaDoor.valid
namespace Go.Proofs.YtdomggegacgmnaaDoor.pure
open Go.RowKit PA ref orders valid Go.Proofs.YtdomggegacgmnaaDoorW.PrintWords Go.Proofs.YtdomggegacgmnaaDoorW.PrintLast Go.Proofs.YtdomggegacgmnaaDoorW.PrintMore
theorem range31 {l : List Int} (w : ∀ x ∈ l, (Lit.int .u8 x).wf = true) : ∀ x ∈ l, 0 ≤ x ∧ x ≤ 255 := fun x hx => by
  have := w x hx
  simp [Lit.wf, IntKind.min, IntKind.max, IntKind.bits, IntKind.signed] at this
  omega
theorem own31 (l : List Int) (h : l.length ≤ 1048576) : galleylaw31_own.f l = some l := by
  unfold galleylaw31_own.f
  simp only [Option.bind_some, List.length_nil, List.nil_append]
  rw [if_pos (by omega)]
theorem cmpv31 (a b : List Int) (r : Int) (hr : r = 1 ∨ r = 2 ∨ r = 3) (ha : a.length ≤ 1048576) (hb : b.length ≤ 1048576) : order_Compare.f a b r = some (cmpL (thingsV a r) (thingsV b r), 0) := by
  unfold order_Compare.f
  have hsm : (small a && small b) = true := by simp only [small, Bool.and_eq_true, decide_eq_true_eq]; omega
  rw [if_pos hr, if_pos hsm]
theorem agree31 (a b : List Int) (ha : a.length ≤ 1048576) (hb : b.length ≤ 1048576) : order_Agree.f a b = some (if cmpL a b = cmpL (runesOf a) (runesOf b) then (cmpL (runesOf a) (runesOf b) == cmpL (unitsOf a) (unitsOf b)) else false) := by
  unfold order_Agree.f
  rw [cmpv31 a b 1 (by omega) ha hb, cmpv31 a b 2 (by omega) ha hb, cmpv31 a b 3 (by omega) ha hb]
  simp only [Option.bind_some]
  show (if cmpL a b = cmpL (runesOf a) (runesOf b) then some (cmpL (runesOf a) (runesOf b) == cmpL (unitsOf a) (unitsOf b)) else some false) = _
  split <;> rfl
theorem OrderValid (l0 l1 : List Int) (h0 : l0.length ≤ 1048576) (w0 : ∀ x ∈ l0, (Lit.int .u8 x).wf = true) (h1 : l1.length ≤ 1048576) (w1 : ∀ x ∈ l1, (Lit.int .u8 x).wf = true) : ∃ k, galleylaw31_OrderValid.f k l0 l1 = some true := by
  refine ⟨8388609, ?_⟩
  have r0 := range31 w0
  have r1 := range31 w1
  have bad : galleylaw31_OrderValid.j0 8388609 l0 l1 (cmpL l0 l1) (cmpL (runesOf l0) (runesOf l1)) (cmpL (unitsOf l0) (unitsOf l1)) true = some true := by
    rw [galleylaw31_OrderValid.j0, if_pos rfl]
    simp only [own31 l0 h0, own31 l1 h1, Option.bind_some, agree31 l0 l1 h0 h1]
    split <;> simp
  unfold galleylaw31_OrderValid.f galleylaw31_wakes.f
  rw [Option.bind_some, if_pos rfl]
  simp only [own31 l0 h0, own31 l1 h1, Option.bind_some, cmpv31 l0 l1 _ (.inl rfl) h0 h1, cmpv31 l0 l1 2 (by omega) h0 h1, cmpv31 l0 l1 3 (by omega) h0 h1, valid_f l0 r0 h0 8388609 (by omega), valid_f l1 r1 h1 8388609 (by omega)]
  show (if wholeT l0 = true then galleylaw31_OrderValid.j0 8388609 l0 l1 (cmpL l0 l1) (cmpL (runesOf l0) (runesOf l1)) (cmpL (unitsOf l0) (unitsOf l1)) (!wholeT l1) else galleylaw31_OrderValid.j0 8388609 l0 l1 (cmpL l0 l1) (cmpL (runesOf l0) (runesOf l1)) (cmpL (unitsOf l0) (unitsOf l1)) true) = some true
  by_cases c0 : wholeT l0 = true
  · rw [if_pos c0]
    by_cases c1 : wholeT l1 = true
    · rw [c1]
      obtain ⟨e0, o0⟩ := whole_runes l0 r0 c0
      obtain ⟨e1, o1⟩ := whole_runes l1 r1 c1
      obtain ⟨t1, t2, t3⟩ := three (runesOf l0) (runesOf l1) o0 o1
      rw [← e0, ← e1] at t1
      have ag := agree31 l0 l1 h0 h1
      rw [if_pos t1] at ag
      show galleylaw31_OrderValid.j0 8388609 l0 l1 (cmpL l0 l1) (cmpL (runesOf l0) (runesOf l1)) (cmpL (unitsOf l0) (unitsOf l1)) false = some true
      rw [galleylaw31_OrderValid.j0, if_neg (by simp), apart_f l0 l1 r0 r1 h0 h1 8388608 (Nat.le_refl _), Option.bind_some]
      simp only [own31 l0 h0, own31 l1 h1, Option.bind_some, ag, class_f, t1, if_true]
      change ∀ r s, _ → _ ∧ cmpL (unitsOf l0) (unitsOf l1) = _ at t2
      change _ → cmpL (unitsOf l0) (unitsOf l1) = _ at t3
      generalize cmpL (unitsOf l0) (unitsOf l1) = U at *
      generalize cmpL (runesOf l0) (runesOf l1) = R at *
      match hf : fd (runesOf l0) (runesOf l1) with
      | none =>
        rw [t3 hf]
        simp
      | some (r, s) =>
        obtain ⟨i0, i1⟩ := fd_in _ _ _ _ hf
        obtain ⟨nz, u⟩ := t2 r s hf
        simp only [if_true]
        rw [class_sum r s (o0 r i0) (o1 s i1)]
        by_cases t : turned r s
        · rw [if_pos t] at u
          rw [decide_eq_true t, show (R == U) = false by simp; omega]; rfl
        · rw [if_neg t] at u
          rw [decide_eq_false t, show (R == U) = true by simp; omega]; rfl
    · rw [show (!wholeT l1) = true by simpa using c1]
      exact bad
  · rw [if_neg c0]
    exact bad
end Go.Proofs.YtdomggegacgmnaaDoor.pure
