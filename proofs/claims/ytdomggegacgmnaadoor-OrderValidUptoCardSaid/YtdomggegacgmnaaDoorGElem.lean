/- The sort's row of rows of bytes: opened into elements that are read, and shut again behind the sort. -/
import Derived.Test.YtdomggegacgmnaaDoorGCore
import Derived.Test.YtdomggegacgmnaaDoorGSb
namespace Go.Proofs.YtdomggegacgmnaaDoor.PA
open Go.Sort Go.RowKit Go.Proofs.YtdomggegacgmnaaDoorW.PrintWords Go.Proofs.YtdomggegacgmnaaDoorW.PrintLast Go.Proofs.YtdomggegacgmnaaDoorW.PrintMore

theorem infoB22 : (Tryd.prog.info? 22).map (fun i => (i.zero, i.size, i.bytes)) = some (some (.slice none 0 0), 1, 24) := by kernel_rfl
/-- a place of a row of rows of bytes -/
def rd_LL (xs : List (List Int)) (i : Int) : List Int := xs.getD i.toNat []
theorem at_LL {w : World} {A : Option Addr} {n : Nat} {xs : List (List Int)} (h : Kd.C (Kd.slice 5 (Kd.int .u8)) w A n xs) (i : Int) (h0 : 0 ≤ i) (h1 : i < n) :
    ∃ ad A0 c0, A = some ad ∧ w.cell? (ad.add i.toNat) = some (.slice A0 (rd_LL xs i).length c0) ∧ (rd_LL xs i).length ≤ c0 ∧ (Kd.int .u8).C w A0 (rd_LL xs i).length (rd_LL xs i) := by
  obtain ⟨ad, c, e, _, hK, hc0⟩ := Kd.C_get h ([] : List Int) i h0 h1
  have hc : ∀ j u, c[j]? = some u → w.cell? (ad.add (i.toNat * 1 + j)) = some u := hc0
  obtain ⟨A0, c0, rfl, l0, g0⟩ := hK
  exact ⟨ad, A0, c0, e, by have hq := hc 0 _ rfl; rwa [Nat.mul_one, Nat.add_zero] at hq, l0, g0⟩

/-- an element: a slice of bytes -/
structure El where
  A : Option Addr
  c : Nat
  l : List Int
/-- it is read in each world that a sort of the block g passes through -/
def Good (w0 : World) (g : Nat) (x : El) : Prop := x.l.length ≤ x.c ∧ small x.l = true ∧ ∀ W, w0.grownBy W (some g) → Kd.C (Kd.int .u8) W x.A x.l.length x.l
def GEl (w0 : World) (g : Nat) : Type := { x : El // Good w0 g x }
theorem C_nil (w : World) : Kd.C (Kd.int .u8) w none 0 [] := Kd.C_of_reads (d := (0 : Int)) (enc := Value.int .u8) (h1 := fun _ => rfl) ⟨rfl, by omega, fun h => by omega⟩
instance (w0 : World) (g : Nat) : Inhabited (GEl w0 g) := ⟨⟨⟨none, 0, []⟩, Nat.le_refl _, rfl, fun W _ => C_nil W⟩⟩
def encG {w0 : World} {g : Nat} (x : GEl w0 g) : Value := .slice x.1.A x.1.l.length x.1.c
/-- with its place -/
def encT {w0 : World} {g : Nat} (x : GEl w0 g × Nat) : Value := encG x.1
theorem encT_one {w0 : World} {g : Nat} (x : GEl w0 g × Nat) : (encT x).oneCell' = true := rfl
def cfT {w0 : World} {g : Nat} (r : Int) (x y : GEl w0 g × Nat) : Int := cmpL (thingsV x.1.1.l r) (thingsV y.1.1.l r)

theorem list_of {α : Type} (P : Nat → α → Prop) (n : Nat) (h : ∀ j, j < n → ∃ x, P j x) : ∃ L : List α, L.length = n ∧ ∀ j x, L[j]? = some x → P j x := by
  refine ⟨List.ofFn (fun j : Fin n => (h j.1 j.2).choose), by simp, fun j x hj => ?_⟩
  have hl : j < n := by
    have := (List.getElem?_eq_some_iff.1 hj).1
    simpa using this
  rw [List.getElem?_ofFn, dif_pos hl] at hj
  rw [← Option.some.inj hj]
  exact (h j hl).choose_spec

/-- what the sort is told of a row of rows of bytes -/
structure Opened (W : World) (base g n cap : Nat) (f : Nat → Nat) (rest : List Value) (L : List (GEl W g)) : Prop where
  hbase : base ≤ g
  hn : n ≤ cap
  hcap : cap ≤ maxLen
  hrest : n + rest.length = cap
  len : L.length = n
  sb : SB (encT (w0 := W) (g := g)) W g rest (Go.Proofs.YtdomggegacgmnaaDoor.tagged L) W
  el : ∀ (j : Nat) (x : GEl W g), L[j]? = some x → (Kd.int .u8).R 5 W base (fun k => k ≠ g ∧ f k = j) (encG x) x.1.l

theorem sz1 (f : Nat → Nat) : (Kd.tag f (Kd.slice 5 (Kd.int .u8))).sz = 1 := rfl
theorem open_S {W : World} {base : Nat} {ok : Nat → Prop} {n cap g : Nat} {xs : List (List Int)} (h : Kd.S (Kd.slice 5 (Kd.int .u8)) 22 W base ok (.slice (some ⟨g, 0, none⟩) n cap) xs) (hsm : xs.all small = true) :
    ∃ f rest L, Opened W base g n cap f rest L ∧ L.map (fun x => x.1.l) = xs := by
  obtain ⟨f, h0, inner, ho, hr⟩ := h
  rw [List.length_zipIdx, sz1] at ho
  rw [sz1] at hr
  have hf := ho.2
  rcases hf with ⟨e, _⟩ | ⟨g', cap', cur, ev, hb, hc, hn, hm, hsz, ht⟩
  · cases e
  · injection ev with e1 e2 e3
    injection e1 with e1
    injection e1 with e1 _ _
    subst e1 e2 e3
    have hlen : inner.length = xs.length := by rw [ho.1, Nat.mul_one]
    have hel : ∀ j, j < xs.length → ∃ x : GEl W g, inner[j]? = some (encG x) ∧ xs[j]? = some x.1.l ∧ (Kd.int .u8).R 5 W base (fun k => k ≠ g ∧ f k = j) (encG x) x.1.l := by
      intro j hj
      have hz : xs.zipIdx[j]? = some (xs[j], j) := Kd.zip_at (List.getElem?_eq_getElem hj)
      obtain ⟨v, hv, hR⟩ := hr.2 j _ hz
      have hR' : (Kd.int .u8).R 5 W base (fun k => k ≠ g ∧ f k = j) v xs[j] := Kd.R_mono hR (fun k hk => ⟨fun e => hk.1.2 (by rw [e]; rfl), hk.2⟩)
      obtain ⟨A, c, rfl, hle, hC⟩ := Kd.R_reads hR'
      refine ⟨⟨⟨A, c, xs[j]⟩, hle, ?_, fun W2 hg => ?_⟩, ?_, ?_, hR'⟩
      · exact List.all_eq_true.1 hsm _ (List.getElem_mem hj)
      · obtain ⟨A', c', e', _, hC'⟩ := Kd.R_reads (Kd.R_grown hR' hg (fun k hk e => hk.1 (Option.some.inj e)))
        injection e' with e1 e2 e3
        rw [e1]; exact hC'
      · have e : ((inner.drop (j * 1)).take 1) = [Value.slice A xs[j].length c] := hv
        rw [Nat.mul_one] at e
        have := congrArg (fun l => l[0]?) e
        rw [List.getElem?_take_of_lt (by omega), List.getElem?_drop] at this
        exact this
      · exact List.getElem?_eq_getElem hj
    obtain ⟨L, hL, hP⟩ := list_of _ _ hel
    have hLx : L.map (fun x => x.1.l) = xs := by
      apply List.ext_getElem?
      intro j
      rw [List.getElem?_map]
      by_cases hj : j < L.length
      · rw [List.getElem?_eq_getElem hj, Option.map_some]; exact (hP j _ (List.getElem?_eq_getElem hj)).2.1.symm
      · rw [List.getElem?_eq_none (by omega), List.getElem?_eq_none (by omega)]; rfl
    have hLi : L.map encG = inner := by
      apply List.ext_getElem?
      intro j
      rw [List.getElem?_map]
      by_cases hj : j < L.length
      · rw [List.getElem?_eq_getElem hj, Option.map_some]; exact (hP j _ (List.getElem?_eq_getElem hj)).1.symm
      · rw [List.getElem?_eq_none (by omega), List.getElem?_eq_none (by omega)]; rfl
    rw [Nat.mul_one] at hsz ht
    refine ⟨f, cur.toList.drop xs.length, L, ⟨hb, hn, hm, ?_, hL, ⟨grown_of_below (Below.refl _ _) _, ?_⟩, fun j x hj => (hP j x hj).2.2⟩, hLx⟩
    · have e : cur.toList.length = cap := by rw [Array.length_toList, hsz]
      rw [List.length_drop, e]; omega
    · rw [hc]
      congr 2
      apply Array.toList_inj.1
      rw [Array.toList_append, Array.toList_map]
      unfold Go.Proofs.YtdomggegacgmnaaDoor.tagged
      rw [List.toList_toArray, List.toList_toArray, show (encT : GEl W g × Nat → Value) = encG ∘ Prod.fst from rfl, ← List.map_map, List.zipIdx_map_fst, hLi, ← ht, List.take_append_drop]

theorem shut_S {W W2 : World} {base g n cap : Nat} {f : Nat → Nat} {rest : List Value} {L : List (GEl W g)} (H : Opened W base g n cap f rest L) {D : Array (GEl W g × Nat)} (hp : D.toList.Perm L.zipIdx) (S : SB encT W g rest D W2) :
    Kd.S (Kd.slice 5 (Kd.int .u8)) 22 W2 base (fun _ => True) (.slice (some ⟨g, 0, none⟩) n cap) (D.toList.map (fun x => x.1.1.l)) := by
  have hDn : D.size = n := by
    have := hp.length_eq
    rw [List.length_zipIdx, H.len, Array.length_toList] at this
    exact this
  have hnd : (D.toList.map (·.2)).Nodup := by
    have := (hp.map (·.2)).nodup_iff.2 (by rw [show L.zipIdx.map (·.2) = List.range' 0 L.length from List.zipIdx_map_snd 0 L]; exact List.nodup_range')
    exact this
  refine ⟨fun k => (D.toList.map (·.2)).idxOf (f k), fun _ _ => trivial, (D.map encT).toList, ⟨?_, .inr ⟨g, cap, _, by rw [List.length_zipIdx, List.length_map, Array.length_toList, hDn], H.hbase, S.row, ?_, H.hcap, ?_, ?_⟩⟩, ?_, ?_⟩
  · rw [sz1]; simp
  · simp only [List.length_zipIdx, List.length_map, Array.length_toList]; rw [hDn]; exact H.hn
  · rw [sz1]; simp only [Array.size_append, Array.size_map, List.size_toArray]; rw [hDn, H.hrest, Nat.mul_one]
  · rw [sz1]; simp [List.take_left']
  · rw [sz1]; simp
  · intro j p hj
    rw [List.getElem?_zipIdx, List.getElem?_map] at hj
    by_cases hjn : j < D.size
    · have hD : D.toList[j]? = some D[j] := by rw [Array.getElem?_toList]; exact Array.getElem?_eq_getElem hjn
      rw [hD] at hj
      simp only [Option.map_some, Nat.zero_add, Option.some.injEq] at hj
      subst hj
      have hmem : D[j] ∈ L.zipIdx := hp.mem_iff.1 (by simp)
      rw [List.mem_zipIdx_iff_getElem?] at hmem
      have hR := H.el _ _ hmem
      refine ⟨encG D[j].1, ?_, ?_⟩
      · rw [sz1, Nat.mul_one]
        have : (D.map encT).toList.drop j = encT D[j] :: (D.map encT).toList.drop (j + 1) := by
          rw [List.drop_eq_getElem_cons (by simpa using hjn)]; simp
        rw [this]; rfl
      · refine Kd.R_mono (Kd.R_grown hR S.kept (fun k hk e => hk.1 (Option.some.inj e))) (fun k hk => ⟨⟨trivial, fun e => hk.1 (Option.some.inj e)⟩, ?_⟩)
        have h2 : j < (D.toList.map (·.2)).length := by simpa using hjn
        have h3 : (D.toList.map (·.2))[j] = f k := by simp [hk.2]
        show (D.toList.map (·.2)).idxOf (f k) = j
        rw [← h3]
        exact hnd.idxOf_getElem j h2
    · rw [List.getElem?_eq_none (by simpa using hjn)] at hj
      simp at hj
end Go.Proofs.YtdomggegacgmnaaDoor.PA
