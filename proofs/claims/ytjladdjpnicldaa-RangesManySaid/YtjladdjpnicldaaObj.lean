/- The object '*Ranges' in memory and what it tells: how long the text is, and its rows; what a map of rows reads as, behind a store, behind a deletion. No walk. -/
import Derived.Test.YtjladdjpnicldaaPAx6
import Derived.Maps.OwnSet
import Derived.Maps.Ext
import Derived.Sort.KeysCollected
namespace Go.Proofs.Ytjladdjpnicldaa.PA
open Go.RowKit Go.Maps Go.Proofs.YtjladdjpnicldaaW.PrintWords Go.Proofs.YtjladdjpnicldaaW.PrintLast Go.Proofs.YtjladdjpnicldaaW.PrintMore

/-- a range as the model's value, and as the datum that it reads as -/
def encR (x : S24) : Value := .agg #[.string x.f0, .int .i64 x.f1, .int .i64 x.f2, .int .i64 x.f3, .int .i64 x.f4]
def datR (x : S24) : DataW Unit := .agg [.lit (.string x.f0.data.toList), .lit (.int .i64 x.f1), .lit (.int .i64 x.f2), .lit (.int .i64 x.f3), .lit (.int .i64 x.f4)]
def readR : Value → Option (DataW Unit × List MemPlace)
  | .agg cs => (match cs.toList with
    | [.string s, .int .i64 a, .int .i64 b, .int .i64 c, .int .i64 d] => some (datR ⟨s, a, b, c, d⟩, [])
    | _ => none)
  | _ => none
theorem readR_enc (x : S24) : readR (encR x) = some (datR x, []) := rfl
theorem readR_inv {v : Value} {z : DataW Unit × List MemPlace} (h : readR v = some z) : ∃ x, v = encR x ∧ z = (datR x, []) := by
  unfold readR at h
  split at h
  · rename_i cs
    split at h
    · rename_i s a b c d e
      cases h
      exact ⟨⟨s, a, b, c, d⟩, by unfold encR; rw [← e], rfl⟩
    · cases h
  · cases h
theorem datR_inj {x y : S24} (h : datR x = datR y) : x = y := by
  obtain ⟨a0, a1, a2, a3, a4⟩ := x
  obtain ⟨b0, b1, b2, b3, b4⟩ := y
  simp only [datR, DataW.agg.injEq, List.cons.injEq, DataW.lit.injEq, Lit.string.injEq, Lit.int.injEq, true_and, and_true] at h
  obtain ⟨h0, rfl, rfl, rfl, rfl⟩ := h
  obtain ⟨⟨l⟩⟩ := a0
  obtain ⟨⟨m⟩⟩ := b0
  simp only at h0
  subst h0
  rfl

def keyL (s : ByteArray) : Lit := .string s.data.toList
theorem keyL_inj {s t : ByteArray} (h : keyL s = keyL t) : s = t := by
  obtain ⟨⟨l⟩⟩ := s
  obtain ⟨⟨m⟩⟩ := t
  simp only [keyL, Lit.string.injEq] at h
  subst h
  rfl
theorem keyL_isKey (s : ByteArray) : WideAt.IsKeyLit (keyL s) := trivial

/-- a map's datum holds just these rows -/
structure Agree (D : DataW Unit) (rows : List S24) : Prop where
  nodup : (rows.map (fun x => x.f0)).Nodup
  has : ∀ s : ByteArray, Maps.has D (keyL s) = true ↔ ∃ x ∈ rows, x.f0 = s
  at_ : ∀ x ∈ rows, D.atKey (keyL x.f0) (datR z24) = datR x
theorem agree_empty : Agree (.map []) [] := ⟨List.Pairwise.nil, fun s => ⟨fun h => (by cases h), fun ⟨x, hx, _⟩ => (by cases hx)⟩, fun x hx => (by cases hx)⟩
theorem name_inj {rows : List S24} (h : (rows.map (fun x => x.f0)).Nodup) {x y : S24} (hx : x ∈ rows) (hy : y ∈ rows) (e : x.f0 = y.f0) : x = y := by
  induction rows with
  | nil => cases hx
  | cons a l ih =>
    rw [List.map_cons, List.nodup_cons] at h
    rcases List.mem_cons.1 hx with hx | hx
    · rcases List.mem_cons.1 hy with hy | hy
      · rw [hx, hy]
      · exact absurd (List.mem_map.2 ⟨y, hy, by rw [← e, hx]⟩) h.1
    · rcases List.mem_cons.1 hy with hy | hy
      · exact absurd (List.mem_map.2 ⟨x, hx, by rw [e, hy]⟩) h.1
      · exact ih h.2 hx hy

/-- the row of a name -/
def getV (rows : List S24) (s : ByteArray) : Option S24 := rows.find? (fun x => decide (x.f0 = s))
theorem getV_some {rows : List S24} {s : ByteArray} {x : S24} (h : getV rows s = some x) : x ∈ rows ∧ x.f0 = s := by
  unfold getV at h
  exact ⟨List.mem_of_find?_eq_some h, by simpa using List.find?_some h⟩
theorem getV_none {rows : List S24} {s : ByteArray} (h : getV rows s = none) : ∀ x ∈ rows, x.f0 ≠ s := by
  unfold getV at h
  intro x hx
  simpa using List.find?_eq_none.1 h x hx
theorem getV_mem {rows : List S24} (hn : (rows.map (fun x => x.f0)).Nodup) {x : S24} (hx : x ∈ rows) : getV rows x.f0 = some x := by
  cases h : getV rows x.f0 with
  | none => exact absurd rfl (getV_none h x hx)
  | some y => rw [name_inj hn (getV_some h).1 hx (getV_some h).2]

theorem Agree.has_eq {D : DataW Unit} {rows : List S24} (h : Agree D rows) (s : ByteArray) : Maps.has D (keyL s) = (getV rows s).isSome := by
  cases hg : getV rows s with
  | none =>
    rw [Option.isSome_none]
    cases hh : Maps.has D (keyL s) with
    | false => rfl
    | true => obtain ⟨x, hx, e⟩ := (h.has s).1 hh; exact absurd e (getV_none hg x hx)
  | some x => rw [Option.isSome_some]; exact (h.has s).2 ⟨x, (getV_some hg).1, (getV_some hg).2⟩
theorem Agree.at_eq {D : DataW Unit} {rows : List S24} (h : Agree D rows) (s : ByteArray) : D.atKey (keyL s) (datR z24) = datR ((getV rows s).getD z24) := by
  cases hg : getV rows s with
  | none => exact Maps.atKey_of_not_has (by rw [h.has_eq, hg]; rfl) _
  | some x =>
    have := h.at_ x (getV_some hg).1
    rw [(getV_some hg).2] at this
    exact this
theorem Agree.put {D : DataW Unit} {rows rows' : List S24} (h : Agree D rows) (hD : Maps.IsMap D) (x : S24) (hn : (rows'.map (fun x => x.f0)).Nodup) (hm : ∀ y, y ∈ rows' ↔ y = x ∨ (y ∈ rows ∧ y.f0 ≠ x.f0)) : Agree (D.put (keyL x.f0) (datR x)) rows' := by
  refine ⟨hn, fun s => ?_, fun y hy => ?_⟩
  · by_cases e : s = x.f0
    · subst e
      exact ⟨fun _ => ⟨x, (hm x).2 (.inl rfl), rfl⟩, fun _ => Maps.has_put_same hD (keyL_isKey _) _⟩
    · rw [Maps.has_put_other (fun e2 => e (keyL_inj e2)), h.has s]
      constructor
      · rintro ⟨y, hy, rfl⟩
        exact ⟨y, (hm y).2 (.inr ⟨hy, e⟩), rfl⟩
      · rintro ⟨y, hy, rfl⟩
        rcases (hm y).1 hy with rfl | hy
        · exact absurd rfl e
        · exact ⟨y, hy.1, rfl⟩
  · rcases (hm y).1 hy with rfl | ⟨hy1, hy2⟩
    · exact Maps.atKey_put_same hD (keyL_isKey _) _ _
    · rw [Maps.atKey_put_other (fun e => hy2 (keyL_inj e))]
      exact h.at_ y hy1
theorem Agree.del {D : DataW Unit} {rows rows' : List S24} (h : Agree D rows) (s : ByteArray) (hn : (rows'.map (fun x => x.f0)).Nodup) (hm : ∀ y, y ∈ rows' ↔ y ∈ rows ∧ y.f0 ≠ s) : Agree (D.del (keyL s)) rows' := by
  refine ⟨hn, fun t => ?_, fun y hy => ?_⟩
  · by_cases e : t = s
    · subst e
      rw [Maps.has_del_same]
      exact ⟨fun h => (by cases h), fun ⟨y, hy, e⟩ => absurd e ((hm y).1 hy).2⟩
    · rw [Maps.has_del_other (fun e2 => e (keyL_inj e2)), h.has t]
      constructor
      · rintro ⟨y, hy, rfl⟩
        exact ⟨y, (hm y).2 ⟨hy, e⟩, rfl⟩
      · rintro ⟨y, hy, rfl⟩
        exact ⟨y, ((hm y).1 hy).1, rfl⟩
  · rw [Maps.atKey_del_other (fun e => ((hm y).1 hy).2 (keyL_inj e))]
    exact h.at_ y ((hm y).1 hy).1
theorem Agree.perm {D : DataW Unit} {rows rows' : List S24} (h : Agree D rows) (hp : rows.Perm rows') : Agree D rows' :=
  ⟨(hp.map _).nodup_iff.1 h.nodup, fun s => (h.has s).trans ⟨fun ⟨x, hx, e⟩ => ⟨x, hp.mem_iff.1 hx, e⟩, fun ⟨x, hx, e⟩ => ⟨x, hp.mem_iff.2 hx, e⟩⟩, fun x hx => h.at_ x (hp.mem_iff.2 hx)⟩

/-- the names, as lists of bytes -/
def namesOf (rows : List S24) : List (List UInt8) := rows.map (fun x => x.f0.data.toList)
theorem nodup_names {rows : List S24} (h : (rows.map (fun x => x.f0)).Nodup) : (namesOf rows).Nodup := by
  unfold namesOf
  have : rows.map (fun x => x.f0.data.toList) = (rows.map (fun x => x.f0)).map (fun s => s.data.toList) := by rw [List.map_map]; rfl
  rw [this]
  unfold List.Nodup at h ⊢
  refine List.pairwise_map.2 (h.imp (fun {a b} hne e => hne (keyL_inj (by unfold keyL; rw [e]))))
theorem Agree.keys {P : Program} {w : World} {m cnt k : Nat} {D : DataW Unit} {rows : List S24} (h : Agree D rows) (hk : P.underlying k = some .string) (ho : w.ownsMap P k readR m cnt D) : (namesOf rows).Perm (strKeys D) ∧ Maps.size D = rows.length := by
  obtain ⟨es, rfl, hne, -⟩ := ho.entries (Maps.string_keyed hk)
  obtain ⟨es2, e2, hkeys⟩ := ho.keysOf
  cases e2
  have hp : (namesOf rows).Perm (strKeys (.map es)) := by
    refine perm_strKeys hne (fun p hp => ?_) (nodup_names h.nodup) (fun x => ?_)
    · obtain ⟨key, hkey⟩ := hkeys p hp
      obtain ⟨x, -, hx, -⟩ := Maps.keyOf_str hk hkey
      exact ⟨x, hx⟩
    · have := h.has ⟨⟨x⟩⟩
      refine Iff.trans ?_ this.symm
      unfold namesOf
      rw [List.mem_map]
      constructor
      · rintro ⟨y, hy, e⟩
        exact ⟨y, hy, keyL_inj (by unfold keyL; rw [e])⟩
      · rintro ⟨y, hy, e⟩
        exact ⟨y, hy, by rw [e]⟩
  refine ⟨hp, ?_⟩
  have hl := hp.length_eq
  unfold namesOf at hl
  rw [List.length_map] at hl
  rw [hl]
  show es.length = (es.map _).length
  rw [List.length_map]

/-- block b is a '*Ranges' of a text of n bytes that has these rows -/
def RObj (w : World) (b : Nat) (n : Int) (rows : List S24) : Prop :=
  ∃ m D, w.heap[b]? = some (.cells #[.int .i64 n, .map (some m)] 75 (0, 0)) ∧ w.ownsMap Try.prog 9 readR m rows.length D ∧ Agree D rows
theorem RObj.step {w w' : World} {b : Nat} {n : Int} {rows : List S24} (h : RObj w b n rows) (hk : ∀ k, k < w.heap.size → (∀ cs t fr, w.heap[k]? = some (.cells cs t fr) → t = 75) → w'.heap[k]? = w.heap[k]?) : RObj w' b n rows := by
  obtain ⟨m, D, hb, ho, ha⟩ := h
  obtain ⟨es, clock, hm, hf⟩ := ho
  refine ⟨m, D, ?_, ⟨es, clock, ?_, hf⟩, ha⟩
  · rw [hk b (blk_lt hb) (fun cs t fr e => by rw [hb] at e; cases e; rfl)]; exact hb
  · rw [hk m (Array.getElem?_eq_some_iff.1 hm).1 (fun cs t fr e => by rw [hm] at e; cases e)]; exact hm
theorem RObj.below {w w' : World} {b : Nat} {n : Int} {rows : List S24} (h : RObj w b n rows) (hb : Below w.heap.size w w') : RObj w' b n rows := h.step (fun k hk _ => hb.block k hk)
theorem RObj.set {w : World} {b : Nat} {n : Int} {rows : List S24} (h : RObj w b n rows) {g t : Nat} {cs : Array Value} {fr : Nat × Nat} (hg : w.heap[g]? = some (.cells cs t fr)) (ht : t ≠ 75) (o : Nat) (v : Value) : RObj (w.setCell ⟨g, o, none⟩ v) b n rows :=
  h.step (fun k hk hc => Below.heap_setCell w ⟨g, o, none⟩ v k (fun e => ht (hc cs t fr (by rw [show k = g from e]; exact hg))))
theorem RObj.grown {w w' : World} {b : Nat} {n : Int} {rows : List S24} (h : RObj w b n rows) {g t : Nat} {cs : Array Value} {fr : Nat × Nat} (hg : w.heap[g]? = some (.cells cs t fr)) (ht : t ≠ 75) (hw : w.grownBy w' (some g)) : RObj w' b n rows :=
  h.step (fun k hk hc => hw.block k hk (fun e => ht (hc cs t fr (by cases e; exact hg))))
theorem RObj.lt {w : World} {b : Nat} {n : Int} {rows : List S24} (h : RObj w b n rows) : b < w.heap.size := by
  obtain ⟨m, D, hb, -⟩ := h
  exact blk_lt hb
theorem RObj.perm {w : World} {b : Nat} {n : Int} {rows rows' : List S24} (h : RObj w b n rows) (hp : rows.Perm rows') : RObj w b n rows' := by
  obtain ⟨m, D, hb, ho, ha⟩ := h
  exact ⟨m, D, hb, hp.length_eq ▸ ho, ha.perm hp⟩
/-- a map that is owned is of at most as many entries as it reads -/
theorem tight {P : Program} {w : World} {k m cnt : Nat} {D : DataW Unit} (h : w.ownsMap P k readR m cnt D) : w.ownsMap P k readR m (Maps.size D) D := by
  obtain ⟨es, clock, hm, hf, hs, rfl⟩ := h
  refine ⟨es, clock, hm, hf, ?_, rfl⟩
  simp [Maps.size, length_sorted]
end Go.Proofs.Ytjladdjpnicldaa.PA
