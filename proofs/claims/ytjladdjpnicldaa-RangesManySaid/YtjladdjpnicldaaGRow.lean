/- A row of ranges and the sort's world: opened into elements with their places, and shut again behind the sort; how ranges are ordered by their ends. -/
import Derived.Test.YtjladdjpnicldaaGSort
import Derived.Test.YtjladdjpnicldaaGCmp
namespace Go.Proofs.Ytjladdjpnicldaa.PA
open Go.Sort Go.RowKit Go.Shelf Go.Lib Go.Proofs.YtjladdjpnicldaaW.PrintWords Go.Proofs.YtjladdjpnicldaaW.PrintLast Go.Proofs.YtjladdjpnicldaaW.PrintMore

def encT (x : S24 × Nat) : List Value := encL x.1
instance : Inhabited S24 := ⟨z24⟩
theorem encT_K : EncK encT 5 := ⟨fun _ => rfl, fun x v hv => by
  simp only [encT, encL, List.mem_cons, List.not_mem_nil, or_false] at hv
  rcases hv with rfl | rfl | rfl | rfl | rfl <;> rfl⟩
def cfT (x y : S24 × Nat) : Int := cfR x.1 y.1
def ltR (x y : S24) : Bool := decide (cfR x y < 0)
theorem ltR_iff (x y : S24) : ltR x y = true ↔ (x.f1 < y.f1 ∨ (x.f1 = y.f1 ∧ x.f2 < y.f2)) := by
  unfold ltR cfR orZ cmpZ
  rw [decide_eq_true_eq]
  (repeat' split) <;> omega
theorem ltR_no (x y : S24) : ltR x y = false ↔ (y.f1 < x.f1 ∨ (x.f1 = y.f1 ∧ y.f2 ≤ x.f2)) := by
  rw [← Bool.not_eq_true, ltR_iff]; omega
theorem swoR : SWO ltR where
  irrefl x := by rw [ltR_no]; omega
  trans x y z h1 h2 := by rw [ltR_iff] at *; omega
  ntrans x y z h1 h2 := by rw [ltR_no] at *; omega
/-- the rows as List hands them out -/
def listV (rows : List S24) : List S24 := (sortN rows).mergeSort (fun x y => !ltR y x)
theorem listV_perm (rows : List S24) : (listV rows).Perm rows := (List.mergeSort_perm _ _).trans (sortN_perm rows)
theorem listV_length (rows : List S24) : (listV rows).length = rows.length := (listV_perm rows).length_eq

theorem flatK_list (d : Array (S24 × Nat)) : flatK encT 5 d = (d.toList.flatMap encT).toArray := by
  apply Array.toList_inj.1
  rw [List.toList_toArray]
  apply List.ext_getElem?
  intro t
  have hlen : (d.toList.flatMap encT).length = d.size * 5 := by
    rw [← Array.length_toList]
    generalize d.toList = l
    induction l with
    | nil => rfl
    | cons a l ih => rw [List.flatMap_cons, List.length_append, ih, List.length_cons, show (encT a).length = 5 from rfl]; omega
  by_cases ht : t < d.size * 5
  · have h1 : (flatK encT 5 d).toList[t]? = some (flatK encT 5 d)[t]! := by
      rw [Array.getElem?_toList, Array.getElem?_eq_getElem (by rw [size_flatK]; exact ht), getElem!_pos _ t (by rw [size_flatK]; exact ht)]
    rw [h1, get_flatK _ _ _ t ht]
    have hq : t / 5 < d.size := by omega
    have key : ∀ (l : List (S24 × Nat)) (q r : Nat), r < 5 → ∀ x, l[q]? = some x → (l.flatMap encT)[q * 5 + r]? = (encT x)[r]? := by
      intro l
      induction l with
      | nil => intro q r _ x h; simp at h
      | cons a l ih =>
        intro q r hr x h
        rw [List.flatMap_cons]
        cases q with
        | zero =>
          simp only [List.getElem?_cons_zero, Option.some.injEq] at h
          subst h
          rw [Nat.zero_mul, Nat.zero_add, List.getElem?_append_left (by show r < 5; exact hr)]
        | succ q =>
          rw [List.getElem?_cons_succ] at h
          rw [List.getElem?_append_right (by show 5 ≤ _; omega), ← ih q r hr x h]
          congr 1
          show (q + 1) * 5 + r - 5 = _
          omega
    have hx : d.toList[t / 5]? = some d[t / 5]! := by
      rw [Array.getElem?_toList, Array.getElem?_eq_getElem hq, getElem!_pos d _ hq]
    have := key d.toList (t / 5) (t % 5) (Nat.mod_lt _ (by omega)) _ hx
    rw [show t / 5 * 5 + t % 5 = t by omega] at this
    rw [this, List.getElem?_eq_getElem (by show t % 5 < 5; exact Nat.mod_lt _ (by omega)), getElem!_pos _ _ (by show t % 5 < 5; exact Nat.mod_lt _ (by omega))]
  · rw [List.getElem?_eq_none (by rw [Array.length_toList, size_flatK]; omega), List.getElem?_eq_none (by rw [List.toList_toArray, hlen]; omega)]

theorem row_inner {w : World} {base : Nat} {ok : Nat → Prop} {xs : List S24} {inner : List Value} (hl : inner.length = xs.length * 5) (hr : Reps (k24.M w base ok) 5 xs inner) : inner = xs.flatMap encL := by
  have hx := hr.2
  clear hr
  induction xs generalizing inner with
  | nil => exact List.length_eq_zero_iff.1 (by simpa using hl)
  | cons x xs ih =>
    have h0 := hx 0 x rfl
    have e1 := k24_openM h0
    rw [Nat.zero_mul, List.drop_zero] at e1
    have e2 : inner.drop 5 = xs.flatMap encL := ih (by rw [List.length_drop, hl, List.length_cons]; omega) (fun j p hj => by
      have := hx (j + 1) p (by simpa using hj)
      rw [List.drop_drop]
      rwa [show 5 + j * 5 = (j + 1) * 5 by omega])
    rw [List.flatMap_cons, ← e2, show encL x = inner.take 5 from e1.symm, List.take_append_drop]

/-- what the sort is told of a row of ranges -/
theorem open_R {W : World} {base : Nat} {ok : Nat → Prop} {n cap g : Nat} {xs : List S24} (h : Kd.R k24 24 W base ok (.slice (some ⟨g, 0, none⟩) n cap) xs) :
    ∃ rest : List Value, base ≤ g ∧ n = xs.length ∧ n ≤ cap ∧ cap ≤ maxLen ∧ xs.length * 5 + rest.length = cap * 5 ∧ SB encT 5 W g rest (Go.Proofs.Ytjladdjpnicldaa.tagged xs) W := by
  obtain ⟨-, inner, ho, hr⟩ := h
  have hin := row_inner ho.1 hr
  rcases ho.2 with ⟨e, _⟩ | ⟨g', cap', cur, ev, hb, hc, hn, hm, hsz, ht⟩
  · cases e
  · injection ev with e1 e2 e3
    injection e1 with e1
    injection e1 with e1 _ _
    subst e1 e2 e3
    have hs5 : k24.sz = 5 := rfl
    rw [hs5] at hsz ht
    refine ⟨cur.toList.drop (xs.length * 5), hb, rfl, hn, hm, ?_, ⟨grown_of_below (Below.refl _ _) _, ?_⟩⟩
    · have h1 : cur.toList.length = cap * 5 := by rw [Array.length_toList (xs := cur), hsz]
      have h2 := Nat.mul_le_mul_right 5 hn
      rw [List.length_drop, h1]; omega
    · rw [hc, flatK_list]
      congr 2
      apply Array.toList_inj.1
      rw [Array.toList_append, List.toList_toArray, List.toList_toArray]
      have e : (Go.Proofs.Ytjladdjpnicldaa.tagged xs).toList.flatMap encT = xs.flatMap encL := by
        unfold Go.Proofs.Ytjladdjpnicldaa.tagged
        rw [List.toList_toArray, List.flatMap_def, List.flatMap_def, show (encT : S24 × Nat → List Value) = encL ∘ Prod.fst from rfl, ← List.map_map, List.zipIdx_map_fst]
      rw [e, ← hin, ← ht, List.take_append_drop]

theorem shut_R {W W2 : World} {base n cap g : Nat} {rest : List Value} (hb : base ≤ g) (hn : n ≤ cap) (hm : cap ≤ maxLen) {D : Array (S24 × Nat)} (hD : D.size = n) (hr : n * 5 + rest.length = cap * 5) (S : SB encT 5 W g rest D W2) :
    Kd.R k24 24 W2 base (fun _ => True) (.slice (some ⟨g, 0, none⟩) n cap) (D.toList.map (·.1)) := by
  have hrow := S.row
  rw [flatK_list] at hrow
  have hx : D.toList.flatMap encT = (D.toList.map (·.1)).flatMap encL := by
    rw [List.flatMap_def, List.flatMap_def, List.map_map]; rfl
  rw [hx] at hrow
  have hlen : ∀ l : List S24, (l.flatMap encL).length = l.length * 5 := by
    intro l
    induction l with
    | nil => rfl
    | cons a l ih => rw [List.flatMap_cons, List.length_append, ih, List.length_cons, show (encL a).length = 5 from rfl]; omega
  have hl : (D.toList.map (·.1)).length = n := by rw [List.length_map, Array.length_toList, hD]
  generalize D.toList.map (·.1) = xs at hrow hl
  have hs5 : k24.sz = 5 := rfl
  refine ⟨fun _ _ => trivial, xs.flatMap encL, ⟨by rw [hlen, hs5], .inr ⟨g, cap, _, by rw [hl], hb, hrow, by rw [hl]; exact hn, hm, ?_, ?_⟩⟩, by rw [hlen, hs5], ?_⟩
  · rw [Array.size_append, List.size_toArray, List.size_toArray, hlen, hl, hs5]; exact hr
  · rw [hs5, Array.toList_append, List.toList_toArray, List.take_append_of_le_length (by rw [hlen]; exact Nat.le_refl _), List.take_of_length_le (by rw [hlen]; exact Nat.le_refl _)]
  · intro j p hj
    have key : ∀ (l : List S24) (q : Nat) (x : S24), l[q]? = some x → ((l.flatMap encL).drop (q * 5)).take 5 = encL x := by
      intro l
      induction l with
      | nil => intro q x h; simp at h
      | cons a l ih =>
        intro q x h
        rw [List.flatMap_cons]
        cases q with
        | zero =>
          simp only [List.getElem?_cons_zero, Option.some.injEq] at h
          subst h
          rw [Nat.zero_mul, List.drop_zero, List.take_append_of_le_length (Nat.le_refl 5)]
          rfl
        | succ q =>
          rw [List.getElem?_cons_succ] at h
          have e5 : (encL a).length = 5 := rfl
          rw [show (q + 1) * 5 = (encL a).length + q * 5 by rw [e5]; omega, List.drop_append, List.drop_of_length_le (Nat.le_add_right _ _), List.nil_append, Nat.add_sub_cancel_left]
          exact ih q x h
    rw [hs5, key xs j p hj]
    exact k24_mkM _ _ _ p
end Go.Proofs.Ytjladdjpnicldaa.PA
