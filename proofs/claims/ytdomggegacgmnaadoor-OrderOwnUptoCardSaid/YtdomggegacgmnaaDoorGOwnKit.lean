/- For OrderOwn's walk: an append by which the row as it was stays readable under its old header; rows of slices by their blocks. -/
import Derived.Test.YtdomggegacgmnaaDoorGSort
import Derived.Test.YtdomggegacgmnaaDoorPAx2
namespace Go.Proofs.YtdomggegacgmnaaDoor.PA
open Go.RowKit Go.Proofs.YtdomggegacgmnaaDoorW.PrintWords Go.Proofs.YtdomggegacgmnaaDoorW.PrintLast Go.Proofs.YtdomggegacgmnaaDoorW.PrintMore

/-- what was owned under the old header is owned still -/
theorem keep_old {P : Program} (w : World) (base : Nat) (t ty e : TypeId) (i : TypeInfo) (z : Value) (bytes : Nat) (ht : P.underlying t = some (.slice e)) (hi : P.info? e = some i) (hz : i.zero = some z)
    (hsize : i.size = 1) (hby : i.bytes = bytes) (v : Value) (n : Nat) (xs : List Value) (hown : w.ownsRow base e 1 v n xs)
    (a : Addr) (m c : Nat) (news : List Value) (hl : news.length = m * 1) (hnews : ∀ j u, news[j]? = some u → w.cell? (a.add j) = some u) (h1 : ∀ u ∈ news, u.oneCell' = true)
    (h63 : n + m ≤ maxLen) (hbytes : (n + m) * bytes ≤ 140737488355328)
    (v' : Value) (w' : World) (hr : (Builtin.append_ #[t, t] ty #[v, .slice (some a) m c]).run P w = .ok v' w') (hown' : w'.ownsRow base e 1 v' (n + m) (xs ++ news)) :
    w'.ownsRow base e 1 v n xs := by
  rcases hown.2 with ⟨rfl, rfl⟩ | ⟨g, cap, cur, rfl, hbg, hg, hnc, hcm, hcs, htake⟩
  · have hx : xs = [] := List.eq_nil_of_length_eq_zero (by simpa using hown.1)
    subst hx
    exact World.ownsRow_nil w' base e 1
  · have hlx : xs.length = n := by have := hown.1; omega
    have hsmall : n + m ≤ 9223372036854775807 := by simp only [maxLen] at h63; omega
    by_cases hroom : n + m ≤ cap
    · have hr2 := run_append_room (P := P) w t ty e i ht hi g n cap cur hg a m c news (by rw [hsize]; exact hl) hnews h1 hroom (by rw [hsize, hl, hcs]; omega)
      rw [hr] at hr2
      injection hr2 with e1 e2
      subst e1
      rcases hown'.2 with ⟨h, _⟩ | ⟨g', cap', cur', h, hbg', hg', hnc', hcm', hcs', htake'⟩
      · cases h
      · injection h with h1 h2 h3
        injection h1 with h1
        injection h1 with h1
        subst h1 h3
        refine ⟨hown.1, .inr ⟨g, cap, cur', rfl, hbg', hg', hnc, hcm', hcs', ?_⟩⟩
        have hx : (cur'.toList.take ((n + m) * 1)).take (n * 1) = xs := by
          rw [htake', List.take_append_of_le_length (by omega)]
          exact List.take_of_length_le (by omega)
        rw [List.take_take, show min (n * 1) ((n + m) * 1) = n * 1 by omega] at hx
        exact hx
    · have holds : ∀ j u, xs[j]? = some u → w.cell? ((⟨g, 0, none⟩ : Addr).add j) = some u := hown.cells (g := g) rfl
      have hr2 := run_append_grow (P := P) w t ty e i z ht hi hz ⟨g, 0, none⟩ n cap xs (by rw [hsize]; exact hown.1) holds a m c news (by rw [hsize]; exact hl) hnews (by omega) (by omega) (by rw [hby]; exact growslice_fits (by omega) hbytes)
      rw [hr] at hr2
      injection hr2 with e1 e2
      subst e2
      exact ⟨hown.1, .inr ⟨g, cap, cur, rfl, hbg, (Below.heap_alloc w.drew _ g (Array.getElem?_eq_some_iff.1 hg).1).trans hg, hnc, hcm, hcs, htake⟩⟩
/-- an append of one literal's values: the new row, the old one too -/
theorem append_keep {P : Program} {ops : Array Oper} {rest : List Oper} {o : Oper} {a : Act} {Q : Exit → Act → World → Prop} {w0 W : World} (base : Nat) (hgd : o.guard = none) (s x : Operand) (t e : TypeId) (z : Value) (bytes : Nat)
    (ho : o.op = .call { callee := .builtin .append, args := #[s, x], argTypes := #[t, t] })
    (ht : P.underlying t = some (.slice e)) (hinfo : (P.info? e).map (fun i => (i.zero, i.size, i.bytes)) = some (some z, 1, bytes)) (hzs : z.cells.size = 1) (hb0 : 0 < bytes)
    (v : Value) (n : Nat) (xs ys : List Value) (m : Nat) (hm : m = ys.length) (h1 : ∀ u ∈ ys, u.oneCell' = true) (hs : a.eval s = v) (hx : a.eval x = .slice (some ⟨W.heap.size, 0, none⟩) m m)
    (HO : W.ownsRow base e 1 v n xs) (HB : Below base w0 W) (hbase : base ≤ W.heap.size) (hl : (n + m) * bytes ≤ 140737488355328)
    (h : ∀ v1 w1, w1.ownsRow base e 1 v1 (n + m) (xs ++ ys) → w1.ownsRow base e 1 v n xs → Below base w0 w1 → W.grownBy w1 v.ownBlock → (v1.ownBlock = v.ownBlock ∨ ∃ b, v1.ownBlock = some b ∧ W.heap.size ≤ b) → wpList P ops Q rest (a.put o.dst v1) w1) :
    wpList P ops Q (o :: rest) a (W.alloc (.cells ys.toArray e)) := by
  subst hm
  obtain ⟨i0, hi, hzz⟩ := Option.map_eq_some_iff.1 hinfo
  simp only [Prod.mk.injEq] at hzz
  obtain ⟨hz0, hz1, hz2⟩ := hzz
  have hlen : n + ys.length ≤ 140737488355328 := Nat.le_trans (Nat.le_mul_of_pos_right _ hb0) hl
  refine wpList_plain hgd fun K hK => ?_
  have hnew : ∀ j u, ys[j]? = some u → (W.alloc (.cells ys.toArray e)).cell? ((⟨W.heap.size, 0, none⟩ : Addr).add j) = some u := by
    simpa using World.news_of_block (cs := ys.toArray) (t := e) (fr := (0, 0)) (heap_alloc_new W (.cells ys.toArray e))
  obtain ⟨v', w', hr, h2, h3, h4, h5⟩ := run_append_own_at (P := P) (W.alloc (.cells ys.toArray e)) base t o.type e i0 z 1 bytes ht hi hz0 hz1 hz2 hzs (by decide) v n xs (HO.alloc _) ⟨W.heap.size, 0, none⟩ ys.length ys.length ys (by omega) hnew h1 (by simp only [maxLen]; omega) hl (by simp; omega)
  have hk := keep_old (P := P) (W.alloc (.cells ys.toArray e)) base t o.type e i0 z bytes ht hi hz0 hz1 hz2 v n xs (HO.alloc _) ⟨W.heap.size, 0, none⟩ ys.length ys.length ys (by omega) hnew h1 (by simp only [maxLen]; omega) hl v' w' hr h2
  unfold Oper.wp execOp
  simp only [ho, resolve, invoke, builtin, Sem.run_bind, Sem.run_pure, Result.andThen_ok, List.map_toArray, List.map_cons, List.map_nil, hs, hx, hr]
  refine hK _ _ (h v' w' h2 hk ((HB.alloc hbase _).grown h3 (by simp; omega) (own_base HO)) (World.grownBy.trans (World.grownBy_alloc W _ _) h3) ?_)
  rcases h5 with h5 | h5
  · exact .inl h5
  · exact .inr ⟨_, h5, by simp⟩

/-! ### rows of slices told by their blocks: (block, length, capacity) -/
def encI (x : Nat × Nat × Nat) : Value := .slice (some ⟨x.1, 0, none⟩) x.2.1 x.2.2
def encW (x : Nat × Nat × Nat) : Value := .slice (some ⟨x.1, 0, none⟩) (x.2.1 + 2) x.2.2
def KI : Kd (Nat × Nat × Nat) := Kd.scalar encI (fun _ => rfl)
def KW : Kd (Nat × Nat × Nat) := Kd.scalar encW (fun _ => rfl)
/-- each block holds its text, with AB behind -/
def Fam (W : World) (base : Nat) (hs : List (Nat × Nat × Nat)) (ls : List (List Int)) : Prop :=
  hs.length = ls.length ∧ ∀ (j : Nat) (x : Nat × Nat × Nat) (l : List Int), hs[j]? = some x → ls[j]? = some l → x.2.1 = l.length ∧ Kd.R (Kd.int .u8) 5 W base (fun k => k = x.1) (.slice (some ⟨x.1, 0, none⟩) (l.length + 2) x.2.2) (l ++ [65, 66])
theorem Fam_nil (W : World) (base : Nat) : Fam W base [] [] := ⟨rfl, fun j x l h => by simp at h⟩
theorem Fam_mem {W : World} {base : Nat} {hs : List (Nat × Nat × Nat)} {ls : List (List Int)} (h : Fam W base hs ls) : ∀ x ∈ hs, base ≤ x.1 ∧ x.1 < W.heap.size ∧ ∃ cells, W.heap[x.1]? = some (.cells cells 5 (0, 0)) := by
  intro x hx
  obtain ⟨j, hj, rfl⟩ := List.mem_iff_getElem.1 hx
  have hl : j < ls.length := by have := h.1; omega
  obtain ⟨-, hR⟩ := h.2 j hs[j] ls[j] (List.getElem?_eq_getElem hj) (List.getElem?_eq_getElem hl)
  exact ⟨Kd.R_base hR _ (by simp [Value.ownBlock]), Kd.R_lt hR _ (by simp [Value.ownBlock]), Kd.R_typed hR _ (by simp [Value.ownBlock])⟩
theorem Fam_move {W W1 : World} {base : Nat} {hs : List (Nat × Nat × Nat)} {ls : List (List Int)} (h : Fam W base hs ls) (hm : ∀ x ∈ hs, W1.heap[x.1]? = W.heap[x.1]?) : Fam W1 base hs ls :=
  ⟨h.1, fun j x l hx hl => ⟨(h.2 j x l hx hl).1, Kd.R_move (h.2 j x l hx hl).2 (fun k hk => by rw [hk]; exact hm x (List.mem_of_getElem? hx))⟩⟩
theorem Fam_below {W W1 : World} {base : Nat} {hs : List (Nat × Nat × Nat)} {ls : List (List Int)} (h : Fam W base hs ls) (hb : Below W.heap.size W W1) : Fam W1 base hs ls :=
  Fam_move h (fun x hx => hb.block _ (Fam_mem h x hx).2.1)
/-- a row of another type has been written -/
theorem Fam_grown {W W1 : World} {base : Nat} {hs : List (Nat × Nat × Nat)} {ls : List (List Int)} (h : Fam W base hs ls) {row : Option Nat} (hg : W.grownBy W1 row)
    (hr : ∀ k, row = some k → ∃ cells, W.heap[k]? = some (.cells cells 22 (0, 0))) : Fam W1 base hs ls :=
  Fam_move h (fun x hx => by
    obtain ⟨-, hlt, cells, hc⟩ := Fam_mem h x hx
    refine hg.block _ hlt (fun e => ?_)
    obtain ⟨cells', hc'⟩ := hr _ e.symm
    rw [hc] at hc'
    injection hc' with hc'
    injection hc' with _ h2 _
    exact absurd h2 (by decide))
theorem Fam_app {W : World} {base : Nat} {hs : List (Nat × Nat × Nat)} {ls : List (List Int)} (h : Fam W base hs ls) (x : Nat × Nat × Nat) (l : List Int) (hx : x.2.1 = l.length)
    (hR : Kd.R (Kd.int .u8) 5 W base (fun k => k = x.1) (.slice (some ⟨x.1, 0, none⟩) (l.length + 2) x.2.2) (l ++ [65, 66])) : Fam W base (hs ++ [x]) (ls ++ [l]) := by
  refine ⟨by simp [h.1], fun j y m hy hm => ?_⟩
  by_cases c : j < hs.length
  · have cl : j < ls.length := by have := h.1; omega
    rw [List.getElem?_append_left c] at hy
    rw [List.getElem?_append_left cl] at hm
    exact h.2 j y m hy hm
  · have hj : j = hs.length := by
      have := (List.getElem?_eq_some_iff.1 hy).1
      simp at this; omega
    subst hj
    rw [List.getElem?_append_right (Nat.le_refl _), Nat.sub_self] at hy
    rw [h.1, List.getElem?_append_right (Nat.le_refl _), Nat.sub_self] at hm
    obtain rfl : x = y := by simpa using hy
    obtain rfl : l = m := by simpa using hm
    exact ⟨hx, hR⟩
/-- the rows handed on: their texts without what stands behind -/
theorem Fam_C {W : World} {base : Nat} {hs : List (Nat × Nat × Nat)} {ls : List (List Int)} (h : Fam W base hs ls) {A : Option Addr} {n : Nat} (hC : Kd.C KI W A n hs) : Kd.C (Kd.slice 5 (Kd.int .u8)) W A n ls := by
  obtain ⟨h1, h2, h3⟩ := hC
  refine ⟨by rw [← h.1]; exact h1, h2, fun h0 => ?_⟩
  obtain ⟨ad, rfl, hc⟩ := h3 h0
  refine ⟨ad, rfl, fun j p hp => ?_⟩
  have hjl : j < hs.length := by have := (List.getElem?_eq_some_iff.1 hp).1; have := h.1; omega
  obtain ⟨e, hR⟩ := h.2 j hs[j] p (List.getElem?_eq_getElem hjl) hp
  obtain ⟨c, hcl, hK, hcell⟩ := hc j hs[j] (List.getElem?_eq_getElem hjl)
  have hK : c = [encI hs[j]] := hK
  subst hK
  have hT := Kd.R_take hR (m := p.length) (by simp)
  rw [List.take_left'] at hT
  · obtain ⟨-, hle, hC2⟩ := Kd.R_reads' hT
    exact ⟨_, rfl, ⟨_, _, by rw [encI, e], hle, hC2⟩, hcell⟩
  · rfl
/-- the whole rows -/
theorem Fam_W {W : World} {base : Nat} {hs : List (Nat × Nat × Nat)} {ls : List (List Int)} (h : Fam W base hs ls) {A : Option Addr} {n : Nat} (hC : Kd.C KW W A n hs) : Kd.C (Kd.slice 5 (Kd.int .u8)) W A n (ls.map (· ++ [65, 66])) := by
  obtain ⟨h1, h2, h3⟩ := hC
  refine ⟨by rw [List.length_map, ← h.1]; exact h1, h2, fun h0 => ?_⟩
  obtain ⟨ad, rfl, hc⟩ := h3 h0
  refine ⟨ad, rfl, fun j p hp => ?_⟩
  rw [List.getElem?_map] at hp
  obtain ⟨l, hl, rfl⟩ := Option.map_eq_some_iff.1 hp
  have hjl : j < hs.length := by have := (List.getElem?_eq_some_iff.1 hl).1; have := h.1; omega
  obtain ⟨e, hR⟩ := h.2 j hs[j] l (List.getElem?_eq_getElem hjl) hl
  obtain ⟨c, hcl, hK, hcell⟩ := hc j hs[j] (List.getElem?_eq_getElem hjl)
  have hK : c = [encW hs[j]] := hK
  subst hK
  obtain ⟨-, hle, hC2⟩ := Kd.R_reads' hR
  exact ⟨_, rfl, ⟨some ⟨hs[j].1, 0, none⟩, hs[j].2.2, by rw [encW, e]; simp, by simpa using hle, hC2⟩, hcell⟩
/-! ### Fold's function -/
def fo (c : Int) : Int := if 65 ≤ c ∧ c ≤ 90 then c + 32 else c
theorem fo_range (c : Int) (h : 0 ≤ c ∧ c ≤ 255) : 0 ≤ fo c ∧ fo c ≤ 255 := by unfold fo; split <;> omega
theorem fo_fo (c : Int) : fo (fo c) = fo c := by unfold fo; repeat' split
                                                 all_goals omega
theorem rd_in (l : List Int) (i : Nat) (h : i < l.length) : rd l (i : Int) = l[i] := by simp [rd, List.getD_eq_getElem?_getD, h]
theorem of_l (x : List Int) (w : ∀ c ∈ x, 0 ≤ c ∧ c ≤ 255) (hm : x.length ≤ 140737488351232) : ∀ (n i k : Nat) (out : List Int), n = x.length - i → i ≤ x.length → n + 1 ≤ k → out.length = x.length →
    order_Fold.l0 k out x (x.length : Int) i = some (out.take i ++ (x.drop i).map fo)
  | n, i, 0, out, h1, h2, hk, ho => by omega
  | n, i, k + 1, out, h1, h2, hk, ho => by
    have ew : wrap64 ((i : Int) + 1) = ((i + 1 : Nat) : Int) := by unfold wrap64; omega
    rw [order_Fold.l0, ew, ho]
    by_cases c : i < x.length
    · rw [if_pos (by omega), if_pos (by omega), if_pos (by omega), rd_in x i c, Int.toNat_natCast]
      have hw := w x[i] (List.getElem_mem c)
      have go : ∀ v, v = fo x[i] → order_Fold.l0 k (out.set i v) x (x.length : Int) ((i + 1 : Nat) : Int) = some (out.take i ++ (x.drop i).map fo) := by
        rintro v rfl
        match n, h1 with
        | 0, h1 => omega
        | n + 1, h1 =>
          rw [of_l x w hm n (i + 1) k _ (by omega) (by omega) (by omega) (by simp [ho]), List.drop_eq_getElem_cons c, List.map_cons, List.take_add_one]
          have : (out.set i (fo x[i])).take i = out.take i := by rw [List.take_set, List.set_eq_of_length_le (by rw [List.length_take]; omega)]
          rw [this, List.getElem?_set_self (by omega)]
          simp
      by_cases a : x[i] ≥ 65
      · rw [if_pos a]
        by_cases b : x[i] ≤ 90
        · rw [if_pos b, if_pos (by omega)]
          exact go _ (by unfold fo; rw [if_pos (by omega)]; omega)
        · rw [if_neg b, if_pos (by omega)]
          exact go _ (by unfold fo; rw [if_neg (by omega)])
      · rw [if_neg a, if_pos (by omega)]
        exact go _ (by unfold fo; rw [if_neg (by omega)])
    · rw [if_neg (by omega), List.drop_eq_nil_of_le (by omega), List.take_of_length_le (by omega)]; simp
theorem order_fold (x : List Int) (w : ∀ c ∈ x, 0 ≤ c ∧ c ≤ 255) (hm : x.length ≤ 140737488351232) (k : Nat) (hk : x.length + 1 ≤ k) : order_Fold.f k x = some (x.map fo) := by
  unfold order_Fold.f
  rw [if_pos (by omega), Int.toNat_natCast, if_pos (by omega)]
  have := of_l x w hm x.length 0 k (List.replicate x.length 0) (by omega) (by omega) hk (by simp)
  rw [show ((0 : Nat) : Int) = 0 from rfl] at this
  rw [this]; simp
theorem setD_self {α : Type} (xs : List α) (i : Nat) (y d : α) (h : i < xs.length) : (xs.set i y).getD i d = y := by
  rw [List.getD_eq_getElem?_getD, List.getElem?_set_self h]; rfl
theorem setD_ne {α : Type} (xs : List α) (i j : Nat) (y d : α) (h : i ≠ j) : (xs.set i y).getD j d = xs.getD j d := by
  rw [List.getD_eq_getElem?_getD, List.getD_eq_getElem?_getD, List.getElem?_set_ne h]
theorem setD_same {α : Type} (xs : List α) (i : Nat) (d : α) (h : i < xs.length) : xs.set i (xs.getD i d) = xs := by
  apply List.ext_getElem
  · simp
  · intro k h1 h2
    rw [List.getElem_set]
    split
    · next e => subst e; simp [List.getD_eq_getElem?_getD, h]
    · rfl
theorem mem_getD (xs : List Int) (x : Int) (h : x ∈ xs) : ∃ q, q < xs.length ∧ xs.getD q 0 = x := by
  obtain ⟨q, hq, rfl⟩ := List.mem_iff_getElem.1 h
  exact ⟨q, hq, by simp [List.getD_eq_getElem?_getD, hq]⟩
/-- two steps: what the second writes is new to the first -/
theorem grown_join {W w1 w2 : World} {row row1 : Option Nat} (h1 : W.grownBy w1 row) (h2 : w1.grownBy w2 row1) (h : row1 = row ∨ ∃ b, row1 = some b ∧ W.heap.size ≤ b) : W.grownBy w2 row :=
  ⟨h2.os.trans h1.os, h2.tape.trans h1.tape, h2.output.trans h1.output, Nat.le_trans h1.size h2.size, fun k hk hne => by
    refine (h2.block k (Nat.lt_of_lt_of_le hk h1.size) (fun e => ?_)).trans (h1.block k hk hne)
    rcases h with h | ⟨b, hb, hle⟩
    · exact hne (e.trans h)
    · rw [hb] at e; injection e with e; omega⟩
/-- the header of a row that was appended to in its block -/
theorem same_head {w1 : World} {base n m c : Nat} {e : TypeId} {A : Option Addr} {v1 : Value} {xs ys : List Value} (h0 : w1.ownsRow base e 1 (.slice A n c) n xs) (h1 : w1.ownsRow base e 1 v1 m ys) (hm : 0 < m)
    (hat : v1.ownBlock = (Value.slice A n c).ownBlock) : v1 = .slice A m c := by
  rcases h1.2 with ⟨-, h⟩ | ⟨g1, c1, cur1, rfl, -, hg1, -, -, hs1, -⟩
  · omega
  · rcases h0.2 with ⟨h, -⟩ | ⟨g, c', cur, h, -, hg, -, -, hs, -⟩
    · injection h with h; subst h; simp [Value.ownBlock] at hat
    · injection h with ha hn hc
      subst ha hc
      have : g1 = g := by simpa [Value.ownBlock] using hat
      subst this
      rw [hg] at hg1
      injection hg1 with e1
      injection e1 with e2
      subst e2
      have : c1 = c := by omega
      rw [this]
theorem own_step {w w1 : World} {base n : Nat} {e : TypeId} {v : Value} {xs : List Value} {row : Option Nat} (h : w.ownsRow base e 1 v n xs) (hg : w.grownBy w1 row) (hne : ∀ k, v.ownBlock = some k → some k ≠ row) : w1.ownsRow base e 1 v n xs := by
  obtain ⟨h1, h2⟩ := h
  refine ⟨h1, ?_⟩
  rcases h2 with h2 | ⟨g, cap, cur, rfl, hb, hh, r⟩
  · exact .inl h2
  · exact .inr ⟨g, cap, cur, rfl, hb, (hg.block g (Array.getElem?_eq_some_iff.1 hh).1 (hne g (by simp [Value.ownBlock]))).trans hh, r⟩
end Go.Proofs.YtdomggegacgmnaaDoor.PA
