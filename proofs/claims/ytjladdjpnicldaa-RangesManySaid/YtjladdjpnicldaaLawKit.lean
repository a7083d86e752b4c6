/- What each row of chapter 16 needs: how an operation, a range, a delta read; the sizes of their texts. -/
import Derived.Test.YtjladdjpnicldaaRows
import Derived.Test.YtjladdjpnicldaaObj
import Derived.WalkKit
import Derived.ProofKit
import Derived.OpenShut
import Derived.ChangeOld
import Derived.Below
import Derived.SizedLaws
import Derived.Lib.SmallJoins
import Derived.Test.YtjladdjpnicldaaWSized
import Derived.Deep.Slices
import Derived.Deep.Strs
namespace Go.Proofs.Ytjladdjpnicldaa.PA
/-- as Sane (the plain law's word) -/
abbrev SaneL (l : List S56) : Prop := l.length ≤ 4398046511104 ∧ ∀ o ∈ l, o.f2.size ≤ 140737488355328 ∧ -9223372036854775808 ≤ o.f1 ∧ o.f1 ≤ 9223372036854775807
end Go.Proofs.Ytjladdjpnicldaa.PA
namespace Go.Proofs.Ytjladdjpnicldaa.law
open Go.ChangeShapes Go.WideShapes Go.ChangeAt Go.RowKit Go.Proofs.YtjladdjpnicldaaW.PrintWords
open Go.Proofs.Ytjladdjpnicldaa.PA (S56 S24 k56 k24 encR k56_mk)

theorem own : ownKnob Try.prog.godebug = none := by kernel_rfl
theorem laidOut : laidOutB Try.prog = true := by kernel_rfl
theorem cells56 : Try.prog.cellsOf 56 = 3 := by kernel_rfl
theorem cells54 : Try.prog.cellsOf 54 = 1 := by kernel_rfl
theorem cells3 : Try.prog.cellsOf 3 = 1 := by kernel_rfl
theorem cells9 : Try.prog.cellsOf 9 = 1 := by kernel_rfl
theorem cells22 : Try.prog.cellsOf 22 = 1 := by kernel_rfl
theorem cells24 : Try.prog.cellsOf 24 = 5 := by kernel_rfl

section
variable {H : Type} {enc : TypeId × Value → H} {W : World} {base : Nat} {sp : Nat → Bool} {held : Bool}
/-- the datum of an operation -/
def opDat (H : Type) (o : S56) : DataW H := .agg [.lit (.int .i64 o.f0), .lit (.int .i64 o.f1), .lit (.string o.f2.data.toList)]
set_option maxRecDepth 100000 in
theorem read_op {n : Nat} {cs : List Value} {x : DataW H × List MemPlace} (h : DataW.trod enc Try.prog W base sp held n 56 cs = some x) :
    ∃ o : S56, cs = [.int .i64 o.f0, .int .i64 o.f1, .string o.f2] ∧ x.1 = opDat H o ∧ (Lit.int .i64 o.f0).wf = true ∧ (Lit.int .i64 o.f1).wf = true := by
  obtain ⟨y0, y1, y2, m, hx, hl, h0, h1, h2⟩ := Deep.trod_struct3 Try.underlying56 h
  rw [cells56] at hl
  simp only [cells54, cells3, cells9, List.drop_zero] at h0 h1 h2
  obtain ⟨z0, c0, x0, w0⟩ := DataW.trod_int Try.underlying54 h0
  obtain ⟨z1, c1, x1, w1⟩ := DataW.trod_int Try.underlying3 h1
  obtain ⟨z2, c2, x2, w2⟩ := DataW.trod_string Try.underlying9 h2
  match cs, hl with
  | [a, b, c], _ =>
    simp at c0 c1 c2
    subst c0 c1 c2
    refine ⟨⟨z0, z1, z2⟩, rfl, ?_, w0, w1⟩
    rw [hx, x0, x1, x2]; rfl

/-- a delta that came in -/
theorem delta_open {a : Option Addr} {len cap : Nat} {d : DataW H} {p : List MemPlace} (h : DataW.Trod enc Try.prog W base sp held 26 (.slice a len cap) d p) :
    ∃ l : List S56, l.length = len ∧ len ≤ cap ∧ Kd.C k56 W a l.length l ∧ (∀ o ∈ l, (Lit.int .i64 o.f0).wf = true ∧ (Lit.int .i64 o.f1).wf = true) ∧ (l = [] ∨ ∃ sp', d = .slice (l.map (opDat H)) sp') := by
  obtain ⟨fuel, hf⟩ := h
  rcases Deep.open_slice Try.underlying26 hf with ⟨hcs, _⟩ | ⟨ad, len', cap', m, n, D, Pl, hcs, _, hl, hm, hmm, hx, hi⟩
  · simp [Value.cells] at hcs
    obtain ⟨rfl, rfl, rfl⟩ := hcs
    exact ⟨[], rfl, Nat.le_refl _, ⟨rfl, by simp, fun h => absurd h (by simp)⟩, by simp, .inl rfl⟩
  · simp [Value.cells] at hcs
    obtain ⟨rfl, rfl, rfl⟩ := hcs
    have hlm : len ≤ m := by rw [hmm]; split <;> omega
    have hof : ∀ i, ∃ o : S56, i < len → (∀ j u, [Value.int .i64 o.f0, .int .i64 o.f1, .string o.f2][j]? = some u → W.cell? (ad.add (i * 3 + j)) = some u) ∧ D i = opDat H o ∧ (Lit.int .i64 o.f0).wf = true ∧ (Lit.int .i64 o.f1).wf = true := by
      intro i
      by_cases hlt : i < len
      · obtain ⟨cs', hc, ht⟩ := hi i (by omega)
        obtain ⟨o, rfl, hD, w0, w1⟩ := read_op ht
        refine ⟨o, fun _ => ⟨fun j u hu => ?_, hD, w0, w1⟩⟩
        obtain ⟨_, hcl, hat⟩ := World.cells?_some hc
        rw [cells56] at hat
        have hj : j < 3 := (List.getElem?_eq_some_iff.1 hu).1
        have := hat j hj
        rw [← Go.Deep.add_add, this, hu]
      · exact ⟨⟨0, 0, ⟨#[]⟩⟩, fun h => absurd h hlt⟩
    refine ⟨(List.range len).map fun i => (hof i).choose, by simp, hl, ⟨by simp, ?_, fun _ => ⟨ad, rfl, fun j q hq => ?_⟩⟩, fun o ho => ?_, .inr ⟨(List.range (m - len)).map fun j => D (len + j), ?_⟩⟩
    · have : maxLen ≤ 9223372036854775807 := by decide
      simp; omega
    · have hjl : j < len := by
        have := (List.getElem?_eq_some_iff.1 hq).1
        simpa using this
      obtain rfl : (hof j).choose = q := by
        rw [List.getElem?_map, List.getElem?_range hjl] at hq
        simpa using hq
      obtain ⟨hcell, -⟩ := (hof j).choose_spec hjl
      exact ⟨_, rfl, k56_mk W _, fun i u hu => hcell i u hu⟩
    · obtain ⟨i, hi2, rfl⟩ := List.mem_map.1 ho
      obtain ⟨-, -, w0, w1⟩ := (hof i).choose_spec (List.mem_range.1 hi2)
      exact ⟨w0, w1⟩
    · rw [(Prod.mk.inj hx).1]
      congr 1
      rw [List.map_map]
      refine List.map_congr_left fun i hi2 => ?_
      exact ((hof i).choose_spec (List.mem_range.1 hi2)).2.1

/-- a range that came in, by value -/
def rangeDat (H : Type) (x : S24) : DataW H := .agg [.lit (.string x.f0.data.toList), .lit (.int .i64 x.f1), .lit (.int .i64 x.f2), .lit (.int .i64 x.f3), .lit (.int .i64 x.f4)]
set_option maxRecDepth 100000 in
theorem read_range {n : Nat} {cs : List Value} {x : DataW H × List MemPlace} (h : DataW.trod enc Try.prog W base sp held n 24 cs = some x) :
    ∃ o : S24, cs = [.string o.f0, .int .i64 o.f1, .int .i64 o.f2, .int .i64 o.f3, .int .i64 o.f4] ∧ x.1 = rangeDat H o ∧ o.f0.size ≤ maxLen ∧ (Lit.int .i64 o.f1).wf = true ∧ (Lit.int .i64 o.f2).wf = true ∧ (Lit.int .i64 o.f3).wf = true ∧ (Lit.int .i64 o.f4).wf = true := by
  obtain ⟨xs, m, _, hx, hl, hlen, hg⟩ := DataW.trod_struct Try.underlying24 h
  rw [cells24] at hl
  match cs, hl, xs, hlen with
  | [a0, a1, a2, a3, a4], _, [y0, y1, y2, y3, y4], _ =>
    have g0 : DataW.trod enc Try.prog W base sp held m 9 [a0] = some y0 := by have := hg 0 _ rfl; simpa [cells9] using this
    have g1 : DataW.trod enc Try.prog W base sp held m 3 [a1] = some y1 := by have := hg 1 _ rfl; simpa [cells3] using this
    have g2 : DataW.trod enc Try.prog W base sp held m 3 [a2] = some y2 := by have := hg 2 _ rfl; simpa [cells3] using this
    have g3 : DataW.trod enc Try.prog W base sp held m 22 [a3] = some y3 := by have := hg 3 _ rfl; simpa [cells22] using this
    have g4 : DataW.trod enc Try.prog W base sp held m 22 [a4] = some y4 := by have := hg 4 _ rfl; simpa [cells22] using this
    obtain ⟨z0, c0, x0, w0⟩ := DataW.trod_string Try.underlying9 g0
    obtain ⟨z1, c1, x1, w1⟩ := DataW.trod_int Try.underlying3 g1
    obtain ⟨z2, c2, x2, w2⟩ := DataW.trod_int Try.underlying3 g2
    obtain ⟨z3, c3, x3, w3⟩ := DataW.trod_int Try.underlying22 g3
    obtain ⟨z4, c4, x4, w4⟩ := DataW.trod_int Try.underlying22 g4
    simp at c0 c1 c2 c3 c4
    subst c0 c1 c2 c3 c4
    refine ⟨⟨z0, z1, z2, z3, z4⟩, rfl, ?_, w0, w1, w2, w3, w4⟩
    rw [hx]
    simp only [List.map_cons, List.map_nil]
    rw [x0, x1, x2, x3, x4]; rfl
set_option maxRecDepth 100000 in
theorem range_open {r : Reach} {b0 : Nat} {v : Value} {d : DataW H} {p : List MemPlace} (hv : Value.okWide Try.prog W r b0 24 v) (h : DataW.Trod enc Try.prog W base sp held 24 v d p) :
    ∃ x : S24, v = encR x ∧ d = rangeDat H x ∧ x.f0.size ≤ maxLen ∧ (Lit.int .i64 x.f1).wf = true ∧ (Lit.int .i64 x.f2).wf = true ∧ (Lit.int .i64 x.f3).wf = true ∧ (Lit.int .i64 x.f4).wf = true := by
  obtain ⟨cs, rfl, hsz⟩ := okWide_struct Try.underlying24 hv
  obtain ⟨fuel, hf⟩ := h
  obtain ⟨x, hc, hd, w⟩ := read_range hf
  refine ⟨x, ?_, hd, w⟩
  unfold encR
  obtain ⟨l⟩ := cs
  simp [Value.cells] at hc
  rw [hc]
end
theorem wf_i64 {x : Int} (h : (Lit.int .i64 x).wf = true) : -9223372036854775808 ≤ x ∧ x ≤ 9223372036854775807 := by
  simp only [Lit.wf, Bool.and_eq_true, decide_eq_true_eq] at h
  have e1 : IntKind.i64.min = -9223372036854775808 := by decide
  have e2 : IntKind.i64.max = 9223372036854775807 := by decide
  omega

/-! ### the sizes -/
theorem bytes56 : Try.prog.bytesOf 56 = 32 := by kernel_rfl
theorem reach_eq : reachBytes = 140737488351232 := by decide
theorem op_weight {H : Type} (o : S56) : o.f2.size ∈ DataW.weights Try.prog 56 (opDat H o) := by
  simp [opDat, DataW.weights, DataW.weightsEach, Try.underlying56]
theorem ops_weight {H : Type} {l : List S56} {o : S56} (h : o ∈ l) : o.f2.size ∈ DataW.weightsAll Try.prog 56 (l.map (opDat H)) := by
  induction l with
  | nil => cases h
  | cons a l ih =>
    rw [List.map_cons, DataW.weightsAll, List.mem_append]
    rcases List.mem_cons.1 h with rfl | h
    · exact .inl (op_weight _)
    · exact .inr (ih h)
/-- a delta among what was read: its length, its texts -/
theorem delta_weights {H : Type} {l : List S56} {sp' : List (DataW H)} : l.length * 32 ≤ (l.length + sp'.length) * 32 ∧ (l.length + sp'.length) * 32 ∈ DataW.weights Try.prog 26 (.slice (l.map (opDat H)) sp') ∧ ∀ o ∈ l, o.f2.size ∈ DataW.weights Try.prog 26 (.slice (l.map (opDat H)) sp') := by
  refine ⟨by omega, ?_, fun o ho => ?_⟩
  · simp [DataW.weights, Try.underlying26, bytes56]
  · simp only [DataW.weights, Try.underlying26, List.mem_cons, List.mem_append]
    exact .inr (.inl (ops_weight ho))
theorem delta_sized {H : Type} {ts : List TypeId} {ds : List (DataW H)} (hsz : (DataW.weightsEach Try.prog ts ds).all (· ≤ reachBytes) = true) {j : Nat} {l : List S56} {d : DataW H} (ht : ts[j]? = some 26) (hd : ds[j]? = some d) (hl : l = [] ∨ ∃ sp', d = .slice (l.map (opDat H)) sp')
    (hw : ∀ o ∈ l, (Lit.int .i64 o.f0).wf = true ∧ (Lit.int .i64 o.f1).wf = true) : l.length ≤ 4398046510976 ∧ Go.Proofs.Ytjladdjpnicldaa.PA.SaneL l := by
  rcases hl with rfl | ⟨sp', rfl⟩
  · exact ⟨by simp, by simp, fun o ho => by cases ho⟩
  · obtain ⟨h1, h2, h3⟩ := delta_weights (H := H) (l := l) (sp' := sp')
    have h4 := List.all_eq_true.1 hsz _ (DataW.weights_mem_each ht hd _ h2)
    rw [decide_eq_true_eq, reach_eq] at h4
    refine ⟨by omega, by omega, fun o ho => ?_⟩
    have h5 := List.all_eq_true.1 hsz _ (DataW.weights_mem_each ht hd _ (h3 o ho))
    rw [decide_eq_true_eq, reach_eq] at h5
    have h6 := wf_i64 (hw o ho).2
    exact ⟨by omega, h6.1, h6.2⟩
end Go.Proofs.Ytjladdjpnicldaa.law
