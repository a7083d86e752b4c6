/- delta.Changes: its closures over their boxes, each(), the whole: the changes of a canonical delta. Conditions: the delta is of fewer than 2^42 operations. -/
import Derived.Test.YtjladdjpnicldaaDelta
import Derived.Laws.EntriesVeiled
namespace Go.Proofs.Ytjladdjpnicldaa.PA
open Go.RowKit Go.Proofs.YtjladdjpnicldaaW.PrintWords Go.Proofs.YtjladdjpnicldaaW.PrintLast Go.Proofs.YtjladdjpnicldaaW.PrintMore

/-- a box of the call's own: a block of one cell -/
structure Box (W : World) (b : Nat) (v : Value) : Prop where
  cell : W.cell? ⟨b, 0, none⟩ = some v
  froz : W.frozen? ⟨b, 0, none⟩ = false

set_option maxHeartbeats 4000000 in
set_option maxRecDepth 100000 in
theorem keep_calls (bAt bOp : Nat) (hne : bAt ≠ bOp) (n a : Int) (s : ByteArray) (o : Bool) (W : World) (h1 : Box W bAt (.int .i64 a)) (h2 : Box W bOp (.bool o)) (hn : IntKind.i64.wrap (a + n) = a + n) :
    Calls Try.prog 60 #[.int .i64 n, .string s, .pointer (some ⟨bAt, 0, none⟩), .pointer (some ⟨bOp, 0, none⟩)] W fun e W' =>
      e = .returned (.tuple #[]) ∧ W' = (W.setCell ⟨bAt, 0, none⟩ (.int .i64 (a + n))).setCell ⟨bOp, 0, none⟩ (.bool false) := by
  obtain ⟨c1, f1⟩ := h1
  obtain ⟨c2, f2⟩ := h2
  have c3 : (W.setCell ⟨bAt, 0, none⟩ (.int .i64 (a + n))).cell? ⟨bOp, 0, none⟩ = some (.bool o) := by
    rw [World.cell?_of_block (Below.heap_setCell W ⟨bAt, 0, none⟩ _ bOp (fun e => hne e.symm))]; exact c2
  have f3 : (W.setCell ⟨bAt, 0, none⟩ (.int .i64 (a + n))).frozen? ⟨bOp, 0, none⟩ = false := by
    rw [World.frozen?_setCell]; exact f2
  go_enter Try.func60, Try.ntmps60
  go_wp2_with fail
  go_end0
  exact ⟨rfl, rfl⟩

set_option maxHeartbeats 4000000 in
set_option maxRecDepth 100000 in
/-- change(), where one is open: the last change's address; nothing turns -/
theorem change_open (bOp bOut bAt g cap : Nat) (xs : List S99) (W : World) (hx : 0 < xs.length) (hl : xs.length ≤ 4398046511104) (h1 : Box W bOp (.bool true)) (h2 : Box W bOut (.slice (some ⟨g, 0, none⟩) xs.length cap)) :
    Calls Try.prog 58 #[.pointer (some ⟨bOp, 0, none⟩), .pointer (some ⟨bOut, 0, none⟩), .pointer (some ⟨bAt, 0, none⟩)] W fun e W' =>
      e = .returned (.pointer (some ⟨g, (xs.length - 1) * 3, none⟩)) ∧ W' = W := by
  obtain ⟨c1, f1⟩ := h1
  obtain ⟨c2, f2⟩ := h2
  obtain ⟨m, hm⟩ : ∃ m, xs.length = m + 1 := ⟨xs.length - 1, by omega⟩
  rw [hm] at c2 hl ⊢
  have q1 : IntKind.i64.wrap (((m + 1 : Nat) : Int) - 1) = (m : Int) := by rw [IntKind.wrap_i64]; omega
  have q2 : IntKind.i64.wrap ((m : Int) + 1 - 1) = (m : Int) := by rw [IntKind.wrap_i64]; omega
  have q3 : IntKind.i64.wrap (m : Int) = (m : Int) := by rw [IntKind.wrap_i64]; omega
  have b1 : (m : Int) < (m : Int) + 1 := by omega
  have b2 : m < m + 1 := by omega
  clear hm hx
  go_enter Try.func58, Try.ntmps58
  go_wp2_with fail
  go_ret
  exact ⟨rfl, rfl⟩

theorem infoCh99 : (Try.prog.info? 99).map (fun i => (i.zero, i.size, i.bytes)) = some (some (.agg #[.int .i64 0, .int .i64 0, .string ⟨#[]⟩]), 3, 32) := by kernel_rfl
set_option maxHeartbeats 4000000 in
set_option maxRecDepth 100000 in
/-- change(), where none is open: one more, at 'at' -/
theorem change_new (bOp bOut bAt base : Nat) (n1 : bOp ≠ bOut) (n2 : bOut ≠ bAt) (n3 : bOp ≠ bAt) (a : Int) (vO : Value) (xs : List S99) (W : World) (hl : xs.length + 1 ≤ 4398046511104) (h1 : Box W bOp (.bool false)) (h2 : Box W bOut vO) (h3 : Box W bAt (.int .i64 a))
    (HO : Kd.R k99 99 W base (fun k => k ≠ bOp ∧ k ≠ bOut ∧ k ≠ bAt) vO xs) (hb : base ≤ W.heap.size) (hlt : bOp < W.heap.size ∧ bOut < W.heap.size ∧ bAt < W.heap.size) :
    Calls Try.prog 58 #[.pointer (some ⟨bOp, 0, none⟩), .pointer (some ⟨bOut, 0, none⟩), .pointer (some ⟨bAt, 0, none⟩)] W fun e W' =>
      ∃ g cap, e = .returned (.pointer (some ⟨g, xs.length * 3, none⟩)) ∧ Box W' bOp (.bool true) ∧ Box W' bOut (.slice (some ⟨g, 0, none⟩) (xs.length + 1) cap) ∧ Box W' bAt (.int .i64 a) ∧
        Kd.R k99 99 W' base (fun k => k ≠ bOp ∧ k ≠ bOut ∧ k ≠ bAt) (.slice (some ⟨g, 0, none⟩) (xs.length + 1) cap) (xs ++ [⟨a, a, ⟨#[]⟩⟩]) ∧ (∀ B, B ≤ bOp → B ≤ bOut → B ≤ base → Below B W W') ∧ ∀ k, k < W.heap.size → k ≠ bOp → k ≠ bOut → some k ≠ vO.ownBlock → W'.heap[k]? = W.heap[k]? := by
  obtain ⟨c1, f1⟩ := h1
  obtain ⟨c2, f2⟩ := h2
  obtain ⟨c3, f3⟩ := h3
  have HR := Aside0.mk HO
  clear HO
  obtain ⟨m, hm⟩ : ∃ m, xs.length = m := ⟨_, rfl⟩
  have q1 : IntKind.i64.wrap (((m + 1 : Nat) : Int) - 1) = (m : Int) := by rw [IntKind.wrap_i64]; omega
  have q2 : IntKind.i64.wrap ((m : Int) + 1 - 1) = (m : Int) := by rw [IntKind.wrap_i64]; omega
  have q3 : IntKind.i64.wrap (m : Int) = (m : Int) := by rw [IntKind.wrap_i64]; omega
  have b1 : (m : Int) < (m : Int) + 1 := by omega
  have b2 : m < m + 1 := by omega
  have Hm := Aside0.mk hm
  obtain ⟨A, c, rfl⟩ := Kd.R_slice HR.out
  clear hm
  go_enter Try.func58, Try.ntmps58
  go_wp2_with ((with_reducible refine gate_builtin (b := .append) (xs := #[.tmp 6, .tmp 10]) rfl ?_); at_builtin; refine Kd.R_append k99 (w0 := W) base rfl (.tmp 6) (.tmp 10) 95 99 (.agg #[.int .i64 0, .int .i64 0, .string ⟨#[]⟩]) 32 rfl Try.underlying95 infoCh99 rfl (by decide) (by decide) (.slice A xs.length c) xs ⟨a, a, ⟨#[]⟩⟩ [.int .i64 a, .int .i64 a, .string ⟨#[]⟩] (fun k => k ≠ bOp ∧ k ≠ bOut ∧ k ≠ bAt) (fun _ => False) rfl rfl (k99_mkM _ _ _ _) (fun _ h => h.elim) (fun k hk => ⟨by omega, by omega, by omega⟩) HR.out (Below.refl _ _) hb (by omega) ?_
               intro v1 w1 hr1 hb1 hg1 hat1
               have hne : ∀ b, (b = bOp ∨ b = bOut ∨ b = bAt) → some b ≠ (Value.slice A xs.length c).ownBlock := fun b hb e => by
                 have := HR.out.1 b e.symm
                 omega
               obtain ⟨g, cap, rfl, -, -, -⟩ := Kd.R_form hr1 (by simp)
               have hlen : (xs ++ [(⟨a, a, ⟨#[]⟩⟩ : S99)]).length = xs.length + 1 := by simp
               rw [hlen] at hr1
               rw [hlen]
               have d1 := hg1.cell c1 (hne bOp (by simp))
               have d2 := hg1.cell c2 (hne bOut (by simp))
               have d3 := hg1.cell c3 (hne bAt (by simp))
               have g1 := (World.frozen?_of_block (a := ⟨bOp, 0, none⟩) (hg1.block bOp hlt.1 (hne bOp (by simp)))).trans f1
               have g2 := (World.frozen?_of_block (a := ⟨bOut, 0, none⟩) (hg1.block bOut hlt.2.1 (hne bOut (by simp)))).trans f2
               have g3 := (World.frozen?_of_block (a := ⟨bAt, 0, none⟩) (hg1.block bAt hlt.2.2 (hne bAt (by simp)))).trans f3
               have HR1 := Aside0.mk hr1
               have HB1 := Aside0.mk hb1
               have HG1 := Aside0.mk hg1
               have D1 := Aside0.mk d1
               have D2 := Aside0.mk d2
               have D3 := Aside0.mk d3
               have G1 := Aside0.mk g1
               have G3 := Aside0.mk g3
               have e1 : (w1.setCell ⟨bOut, 0, none⟩ (.slice (some ⟨g, 0, none⟩) (xs.length + 1) cap)).cell? ⟨bOp, 0, none⟩ = some (.bool false) := by
                 rw [World.cell?_of_block (Below.heap_setCell w1 ⟨bOut, 0, none⟩ _ bOp n1)]; exact d1
               have e2 : (w1.setCell ⟨bOut, 0, none⟩ (.slice (some ⟨g, 0, none⟩) (xs.length + 1) cap)).frozen? ⟨bOp, 0, none⟩ = false := by rw [World.frozen?_setCell]; exact g1
               have e3 : ((w1.setCell ⟨bOut, 0, none⟩ (.slice (some ⟨g, 0, none⟩) (xs.length + 1) cap)).setCell ⟨bOp, 0, none⟩ (.bool true)).cell? ⟨bOut, 0, none⟩ = some (.slice (some ⟨g, 0, none⟩) (xs.length + 1) cap) := by
                 rw [World.cell?_of_block (Below.heap_setCell _ ⟨bOp, 0, none⟩ _ bOut (Ne.symm n1))]
                 exact World.cell?_setCell_same' _ _ _ (by rw [d2]; rfl)
               clear hr1 hb1 hg1 hat1 hne hlen c1 c2 c3 f1 f2 f3 d1 d3 g1 g3)
  rw [Hm.out] at *
  go_ret
  refine ⟨g, cap, rfl, ⟨World.cell?_setCell_same' _ _ _ (by rw [e1]; rfl), by rw [World.frozen?_setCell]; exact e2⟩, ⟨e3, by rw [World.frozen?_setCell, World.frozen?_setCell]; exact g2⟩, ⟨?_, by rw [World.frozen?_setCell, World.frozen?_setCell]; exact G3.out⟩, ?_, fun B h1 h2 h3 => ?_, fun k hk n1 n2 n3 => ?_⟩
  · rw [World.cell?_of_block (Below.heap_setCell _ ⟨bOp, 0, none⟩ _ bAt (Ne.symm n3)), World.cell?_of_block (Below.heap_setCell _ ⟨bOut, 0, none⟩ _ bAt (Ne.symm n2))]
    exact D3.out
  · exact Kd.R_far (Kd.R_far HR1.out (fun k hk => hk.2.1) _) (fun k hk => hk.1) _
  · have hb : Below B W w1 := ⟨HB1.out.os, HB1.out.tape, HB1.out.output, HB1.out.size, fun k hk => HB1.out.block k (Nat.lt_of_lt_of_le hk h3)⟩
    exact (hb.setCell (p := ⟨bOut, 0, none⟩) h2 _).setCell (p := ⟨bOp, 0, none⟩) h1 _
  · rw [Below.heap_setCell _ ⟨bOp, 0, none⟩ _ k n1, Below.heap_setCell _ ⟨bOut, 0, none⟩ _ k n2]
    exact HG1.out.block k hk n3

set_option maxHeartbeats 4000000 in
set_option maxRecDepth 100000 in
/-- Changes$3: a text is put; one is open -/
theorem put_open (bCh bOp bOut bAt base g cap : Nat) (n : Int) (s : ByteArray) (xs : List S99) (y : S99) (W : World) (hl : xs.length + 1 ≤ 4398046511104) (hs : y.f2.size + s.size ≤ 9223372036854775807)
    (h0 : Box W bCh (.func (.func 58) #[] #[.pointer (some ⟨bOp, 0, none⟩), .pointer (some ⟨bOut, 0, none⟩), .pointer (some ⟨bAt, 0, none⟩)]))
    (h1 : Box W bOp (.bool true)) (h2 : Box W bOut (.slice (some ⟨g, 0, none⟩) (xs.length + 1) cap))
    (HO : Kd.R k99 99 W base (fun k => k ≠ bOp ∧ k ≠ bOut ∧ k ≠ bAt) (.slice (some ⟨g, 0, none⟩) (xs.length + 1) cap) (xs ++ [y])) :
    Calls Try.prog 61 #[.int .i64 n, .string s, .pointer (some ⟨bCh, 0, none⟩)] W fun e W' =>
      e = .returned (.tuple #[]) ∧ W' = W.setCell ⟨g, xs.length * 3 + 2, none⟩ (.string (y.f2 ++ s)) := by
  obtain ⟨c0, f0⟩ := h0
  have hc := change_open bOp bOut bAt g cap (xs ++ [y]) W (by simp) (by simpa using hl) h1 (by simpa using h2)
  go_enter Try.func61, Try.ntmps61
  obtain ⟨c, -, hM, hcell, hfr⟩ := Kd.R_elem HO z99 (xs.length : Int) (by omega) (by omega)
  have hy : (xs ++ [y]).getD ((xs.length : Int)).toNat z99 = y := by simp [List.getD_eq_getElem?_getD]
  rw [hy] at hM
  have hce := k99_openM hM
  subst hce
  have c2 : W.cell? ⟨g, xs.length * 3 + 2, none⟩ = some (.string y.f2) := hcell 2 _ rfl
  have f2 : W.frozen? ⟨g, xs.length * 3 + 2, none⟩ = false := hfr 2
  have hadd : ∀ W : World, (Op.stringOp .add y.f2 s).run Try.prog W = .ok (.string (y.f2 ++ s)) W := fun W => run_string_add_sum W _ _ hs
  have hlen : (xs ++ [y]).length - 1 = xs.length := by simp
  rw [hlen] at hc
  clear hM hcell hfr hy hlen
  go_wp2_with fail
  refine hc.mono ?_
  rintro e W1 ⟨rfl, rfl⟩
  go_wp2_with fail
  go_end0
  exact ⟨rfl, rfl⟩

set_option maxHeartbeats 4000000 in
set_option maxRecDepth 100000 in
/-- Changes$4: so many bytes are dropped; one is open -/
theorem drop_open (bCh bOp bOut bAt base g cap : Nat) (n a : Int) (s : ByteArray) (xs : List S99) (y : S99) (W : World) (hl : xs.length + 1 ≤ 4398046511104) (hn : IntKind.i64.wrap (a + n) = a + n) (hlt : bAt < W.heap.size)
    (h0 : Box W bCh (.func (.func 58) #[] #[.pointer (some ⟨bOp, 0, none⟩), .pointer (some ⟨bOut, 0, none⟩), .pointer (some ⟨bAt, 0, none⟩)]))
    (h1 : Box W bOp (.bool true)) (h2 : Box W bOut (.slice (some ⟨g, 0, none⟩) (xs.length + 1) cap)) (h3 : Box W bAt (.int .i64 a))
    (HO : Kd.R k99 99 W base (fun k => k ≠ bOp ∧ k ≠ bOut ∧ k ≠ bAt) (.slice (some ⟨g, 0, none⟩) (xs.length + 1) cap) (xs ++ [y])) :
    Calls Try.prog 62 #[.int .i64 n, .string s, .pointer (some ⟨bCh, 0, none⟩), .pointer (some ⟨bAt, 0, none⟩)] W fun e W' =>
      e = .returned (.tuple #[]) ∧ W' = (W.setCell ⟨bAt, 0, none⟩ (.int .i64 (a + n))).setCell ⟨g, xs.length * 3 + 1, none⟩ (.int .i64 (a + n)) := by
  obtain ⟨c0, f0⟩ := h0
  obtain ⟨c3, f3⟩ := h3
  have hc := change_open bOp bOut bAt g cap (xs ++ [y]) W (by simp) (by simpa using hl) h1 (by simpa using h2)
  have hga : g ≠ bAt := (HO.1 g (by simp [Value.ownBlock])).2.2
  have HO2 := Kd.R_far HO (p := ⟨bAt, 0, none⟩) (fun k hk => hk.2.2) (.int .i64 (a + n))
  obtain ⟨c, -, hM, hcell, hfr⟩ := Kd.R_elem HO2 z99 (xs.length : Int) (by omega) (by omega)
  have hy : (xs ++ [y]).getD ((xs.length : Int)).toNat z99 = y := by simp [List.getD_eq_getElem?_getD]
  rw [hy] at hM
  have hce := k99_openM hM
  subst hce
  have c2 : (W.setCell ⟨bAt, 0, none⟩ (.int .i64 (a + n))).cell? ⟨g, xs.length * 3 + 1, none⟩ = some (.int .i64 y.f1) := hcell 1 _ rfl
  have f2 : (W.setCell ⟨bAt, 0, none⟩ (.int .i64 (a + n))).frozen? ⟨g, xs.length * 3 + 1, none⟩ = false := hfr 1
  have hlen : (xs ++ [y]).length - 1 = xs.length := by simp
  rw [hlen] at hc
  clear hM hcell hfr hy hlen HO HO2
  go_enter Try.func62, Try.ntmps62
  go_wp2_with fail
  refine hc.mono ?_
  rintro e W1 ⟨rfl, rfl⟩
  go_wp2_with fail
  go_end0
  exact ⟨rfl, rfl⟩


theorem Box.far {W : World} {b : Nat} {v u : Value} {p : Addr} (h : Box W b v) (hne : b ≠ p.block) : Box (W.setCell p u) b v :=
  ⟨(World.cell?_of_block (Below.heap_setCell W p u b hne)).trans h.cell, by rw [World.frozen?_setCell]; exact h.froz⟩
theorem Box.set {W : World} {b : Nat} {v : Value} (h : Box W b v) (u : Value) : Box (W.setCell ⟨b, 0, none⟩ u) b u :=
  ⟨World.cell?_setCell_same' _ _ _ (by rw [h.cell]; rfl), by rw [World.frozen?_setCell]; exact h.froz⟩
theorem Box.lt {W : World} {b : Nat} {v : Value} (h : Box W b v) : b < W.heap.size := World.block_lt_of_cell? W _ h.cell
theorem Box.below {W W' : World} {b : Nat} {v : Value} (h : Box W b v) (hb : Below W.heap.size W W') : Box W' b v :=
  ⟨(hb.cell (p := ⟨b, 0, none⟩) h.lt).trans h.cell, (hb.frozen (p := ⟨b, 0, none⟩) h.lt).trans h.froz⟩

theorem Box.new (W : World) (v : Value) (t : TypeId) : Box (W.alloc (.cells #[v] t)) W.heap.size v := ⟨(blk_cell (MapKept.heap_alloc W _).1 0).trans rfl, blk_frozen (MapKept.heap_alloc W _).1 0⟩
theorem Box.alloc {W : World} {b : Nat} {v : Value} (h : Box W b v) (o : Obj) : Box (W.alloc o) b v := h.below ((Below.refl _ _).alloc (Nat.le_refl _) _)
/-- the state of Changes: the changes so far, the place, is one open? (blocks H to H + 3) -/
structure St (W : World) (H : Nat) (a : Int) (o : Bool) (xs : List S99) : Prop where
  bout : ∃ v, Box W H v ∧ Kd.R k99 99 W (H + 4) (fun k => H + 4 ≤ k) v xs
  bat : Box W (H + 1) (.int .i64 a)
  bop : Box W (H + 2) (.bool o)
  bch : Box W (H + 3) (.func (.func 58) #[] #[.pointer (some ⟨H + 2, 0, none⟩), .pointer (some ⟨H, 0, none⟩), .pointer (some ⟨H + 1, 0, none⟩)])
theorem St.size {W : World} {H : Nat} {a : Int} {o : Bool} {xs : List S99} (h : St W H a o xs) : H + 4 ≤ W.heap.size := h.bch.lt
theorem St.below {W W' : World} {H : Nat} {a : Int} {o : Bool} {xs : List S99} (h : St W H a o xs) (hb : Below W.heap.size W W') : St W' H a o xs := by
  obtain ⟨⟨v, h1, h2⟩, h3, h4, h5⟩ := h
  exact ⟨⟨v, h1.below hb, Kd.R_below h2 hb⟩, h3.below hb, h4.below hb, h5.below hb⟩

/-- a field of the last change is written -/
theorem last_set {W : World} {base g cap : Nat} {ok : Nat → Prop} {xs : List S99} {y y' : S99} (h : Kd.R k99 99 W base ok (.slice (some ⟨g, 0, none⟩) (xs.length + 1) cap) (xs ++ [y])) (j : Nat) (u : Value) (hj : j < 3)
    (hy : [Value.int .i64 y'.f0, .int .i64 y'.f1, .string y'.f2] = [Value.int .i64 y.f0, .int .i64 y.f1, .string y.f2].set j u) :
    Kd.R k99 99 (W.setCell ⟨g, xs.length * 3 + j, none⟩ u) base ok (.slice (some ⟨g, 0, none⟩) (xs.length + 1) cap) (xs ++ [y']) ∧ base ≤ g := by
  have hg : base ≤ g := by
    have := Kd.R_bound h
    exact (this.1 g (by simp [Value.ownBlock])).2.1
  obtain ⟨c, hcl, hM, hcell, hfr⟩ := Kd.R_elem h z99 (xs.length : Int) (by omega) (by omega)
  have hg1 : (xs ++ [y]).getD ((xs.length : Int)).toNat z99 = y := by simp [List.getD_eq_getElem?_getD]
  rw [hg1] at hM
  have hce := k99_openM hM
  subst hce
  have hs := Kd.R_seg h (xs.length : Int) (by omega) (by omega) (seg := [u]) (j := j) hcl hcell (by show j + 1 ≤ 3; omega) (x' := y') (okp := fun k => ok k ∧ k ≠ g) (by
    have : ([Value.int .i64 y.f0, .int .i64 y.f1, .string y.f2].take j ++ [u] ++ [Value.int .i64 y.f0, .int .i64 y.f1, .string y.f2].drop (j + [u].length)) = [Value.int .i64 y'.f0, .int .i64 y'.f1, .string y'.f2] := by
      rw [hy]
      rcases j with _ | _ | _ | j
      · rfl
      · rfl
      · rfl
      · omega
    rw [this]
    exact k99_mkM _ _ _ y') (fun _ h => h)
  have hset : (xs ++ [y]).set ((xs.length : Int)).toNat y' = xs ++ [y'] := by simp
  rw [hset] at hs
  exact ⟨hs.1, hg⟩

/-- Changes$2 -/
theorem keep_st {W : World} {H : Nat} {a n : Int} {o : Bool} {xs : List S99} (s : ByteArray) (S : St W H a o xs) (hn : IntKind.i64.wrap (a + n) = a + n) :
    Calls Try.prog 60 #[.int .i64 n, .string s, .pointer (some ⟨H + 1, 0, none⟩), .pointer (some ⟨H + 2, 0, none⟩)] W fun e W' => e = .returned (.tuple #[]) ∧ St W' H (a + n) false xs ∧ Below H W W' := by
  refine (keep_calls (H + 1) (H + 2) (by omega) n a s o W S.bat S.bop hn).mono ?_
  rintro e W' ⟨rfl, rfl⟩
  obtain ⟨⟨v, h1, h2⟩, h3, h4, h5⟩ := S
  refine ⟨rfl, ⟨⟨v, ?_, ?_⟩, ?_, ?_, ?_⟩, ?_⟩
  · exact (h1.far (p := ⟨H + 1, 0, none⟩) (by simp)).far (p := ⟨H + 2, 0, none⟩) (by simp)
  · exact Kd.R_far (p := ⟨H + 2, 0, none⟩) (Kd.R_far (p := ⟨H + 1, 0, none⟩) h2 (fun k hk => by simp only; omega) _) (fun k hk => by simp only; omega) _
  · exact (h3.set _).far (p := ⟨H + 2, 0, none⟩) (by simp)
  · exact Box.set (h4.far (p := ⟨H + 1, 0, none⟩) (by simp)) _
  · exact (h5.far (p := ⟨H + 1, 0, none⟩) (by simp)).far (p := ⟨H + 2, 0, none⟩) (by simp)
  · exact ((Below.refl _ _).setCell (p := ⟨H + 1, 0, none⟩) (by simp) _).setCell (p := ⟨H + 2, 0, none⟩) (by simp) _

theorem toB {W : World} {H : Nat} {v : Value} {xs : List S99} (h : Kd.R k99 99 W (H + 4) (fun k => H + 4 ≤ k) v xs) : Kd.R k99 99 W (H + 4) (fun k => k ≠ H + 2 ∧ k ≠ H ∧ k ≠ H + 1) v xs := Kd.R_mono h (fun k hk => by omega)
theorem fromB {W : World} {H : Nat} {ok : Nat → Prop} {v : Value} {xs : List S99} (h : Kd.R k99 99 W (H + 4) ok v xs) : Kd.R k99 99 W (H + 4) (fun k => H + 4 ≤ k) v xs := Kd.R_mono (Kd.R_bound h) (fun _ hk => hk.2.1)

theorem base_of {W : World} {b : Nat} {ok : Nat → Prop} {v : Value} {xs : List S99} (h : Kd.R k99 99 W b ok v xs) {k : Nat} (hk : k < b) : some k ≠ v.ownBlock := fun e => by
  have := (Kd.R_bound h).1 k e.symm
  omega

set_option maxHeartbeats 4000000 in
set_option maxRecDepth 100000 in
/-- change(), in the state -/
theorem change_st {W : World} {H : Nat} {a : Int} {xs : List S99} (S : St W H a false xs) (hl : xs.length + 1 ≤ 4398046511104) :
    Calls Try.prog 58 #[.pointer (some ⟨H + 2, 0, none⟩), .pointer (some ⟨H, 0, none⟩), .pointer (some ⟨H + 1, 0, none⟩)] W fun e W' =>
      ∃ g cap, e = .returned (.pointer (some ⟨g, xs.length * 3, none⟩)) ∧ Box W' H (.slice (some ⟨g, 0, none⟩) (xs.length + 1) cap) ∧ Box W' (H + 1) (.int .i64 a) ∧ Box W' (H + 2) (.bool true) ∧
        Box W' (H + 3) (.func (.func 58) #[] #[.pointer (some ⟨H + 2, 0, none⟩), .pointer (some ⟨H, 0, none⟩), .pointer (some ⟨H + 1, 0, none⟩)]) ∧
        Kd.R k99 99 W' (H + 4) (fun k => H + 4 ≤ k) (.slice (some ⟨g, 0, none⟩) (xs.length + 1) cap) (xs ++ [⟨a, a, ⟨#[]⟩⟩]) ∧ Below H W W' := by
  have hsz := S.size
  obtain ⟨⟨v, h1, h2⟩, h3, h4, h5⟩ := S
  refine (change_new (H + 2) H (H + 1) (H + 4) (by omega) (by omega) (by omega) a v xs W hl h4 h1 h3 (toB h2) hsz (by omega)).mono ?_
  rintro e W1 ⟨g, cap, rfl, b1, b2, b3, hR, hB, hk⟩
  have hk3 := hk (H + 3) (by omega) (by omega) (by omega) (base_of h2 (by omega))
  exact ⟨g, cap, rfl, b2, b3, b1, ⟨(World.cell?_of_block (a := ⟨H + 3, 0, none⟩) hk3).trans h5.cell, (World.frozen?_of_block (a := ⟨H + 3, 0, none⟩) hk3).trans h5.froz⟩, fromB hR, hB H (by omega) (by omega) (by omega)⟩

set_option maxHeartbeats 4000000 in
set_option maxRecDepth 100000 in
/-- Changes$3: a text is put; none is open -/
theorem put_st {W : World} {H : Nat} {a : Int} {xs : List S99} (n : Int) (s : ByteArray) (S : St W H a false xs) (hl : xs.length + 1 ≤ 4398046511104) (hs : s.size ≤ 9223372036854775807) :
    Calls Try.prog 61 #[.int .i64 n, .string s, .pointer (some ⟨H + 3, 0, none⟩)] W fun e W' => e = .returned (.tuple #[]) ∧ St W' H a true (xs ++ [⟨a, a, s⟩]) ∧ Below H W W' := by
  have Hc := Aside0.mk (change_st S hl)
  have c0 := S.bch.cell
  have hadd : ∀ W : World, (Op.stringOp .add (⟨#[]⟩ : ByteArray) s).run Try.prog W = .ok (.string ((⟨#[]⟩ : ByteArray) ++ s)) W := fun W => run_string_add_sum W _ _ (by show 0 + s.size ≤ 9223372036854775807; omega)
  have Hes := Aside0.mk (show (⟨#[]⟩ : ByteArray) ++ s = s from ByteArray.empty_append)
  clear S
  go_enter Try.func61, Try.ntmps61
  go_wp2_with fail
  refine Hc.out.mono ?_
  rintro e W1 ⟨g, cap, rfl, b0, b1, b2, b3, hR, hB⟩
  obtain ⟨c, -, hM, hcell, hfr⟩ := Kd.R_elem hR z99 (xs.length : Int) (by omega) (by omega)
  have hy : (xs ++ [(⟨a, a, ⟨#[]⟩⟩ : S99)]).getD ((xs.length : Int)).toNat z99 = ⟨a, a, ⟨#[]⟩⟩ := by simp [List.getD_eq_getElem?_getD]
  rw [hy] at hM
  have hce := k99_openM hM
  subst hce
  have c2 : W1.cell? ⟨g, xs.length * 3 + 2, none⟩ = some (.string ⟨#[]⟩) := hcell 2 _ rfl
  have f2 : W1.frozen? ⟨g, xs.length * 3 + 2, none⟩ = false := hfr 2
  obtain ⟨HL, hg⟩ := last_set (y' := ⟨a, a, s⟩) hR 2 (.string s) (by omega) rfl
  have HS := Aside0.mk (show St (W1.setCell ⟨g, xs.length * 3 + 2, none⟩ (.string s)) H a true (xs ++ [⟨a, a, s⟩]) ∧ Below H W (W1.setCell ⟨g, xs.length * 3 + 2, none⟩ (.string s)) from
    ⟨⟨⟨_, b0.far (by simp only; omega), HL⟩, b1.far (by simp only; omega), b2.far (by simp only; omega), b3.far (by simp only; omega)⟩, hB.setCell (by simp only; omega) _⟩)
  clear hM hcell hfr hy hR b0 b1 b2 b3 hB HL hg
  go_wp2_with fail
  go_end0
  rw [Hes.out]
  exact ⟨rfl, HS.out⟩

set_option maxHeartbeats 4000000 in
set_option maxRecDepth 100000 in
/-- Changes$4: so many bytes are dropped; one is open -/
theorem drop_st1 {W : World} {H : Nat} {a n : Int} {xs : List S99} {y : S99} (s : ByteArray) (S : St W H a true (xs ++ [y])) (hl : xs.length + 1 ≤ 4398046511104) (hn : IntKind.i64.wrap (a + n) = a + n) :
    Calls Try.prog 62 #[.int .i64 n, .string s, .pointer (some ⟨H + 3, 0, none⟩), .pointer (some ⟨H + 1, 0, none⟩)] W fun e W' => e = .returned (.tuple #[]) ∧ St W' H (a + n) true (xs ++ [⟨y.f0, a + n, y.f2⟩]) ∧ Below H W W' := by
  obtain ⟨⟨v, h1, h2⟩, h3, h4, h5⟩ := S
  obtain ⟨g, cap, rfl, -, -, -⟩ := Kd.R_form h2 (by simp)
  have hlen : (xs ++ [y]).length = xs.length + 1 := by simp
  rw [hlen] at h1 h2
  refine (drop_open (H + 3) (H + 2) H (H + 1) (H + 4) g cap n a s xs y W hl hn h3.lt h5 h4 h1 h3 (toB h2)).mono ?_
  rintro e W1 ⟨rfl, rfl⟩
  have h2' := Kd.R_far (p := ⟨H + 1, 0, none⟩) h2 (fun k hk => by simp only; omega) (.int .i64 (a + n))
  obtain ⟨HL, hg⟩ := last_set (y' := ⟨y.f0, a + n, y.f2⟩) h2' 1 (.int .i64 (a + n)) (by omega) rfl
  refine ⟨rfl, ⟨⟨_, ?_, HL⟩, ?_, ?_, ?_⟩, ?_⟩
  · exact (h1.far (p := ⟨H + 1, 0, none⟩) (by simp)).far (by simp only; omega)
  · exact (h3.set _).far (by simp only; omega)
  · exact (h4.far (p := ⟨H + 1, 0, none⟩) (by simp)).far (by simp only; omega)
  · exact (h5.far (p := ⟨H + 1, 0, none⟩) (by simp)).far (by simp only; omega)
  · exact ((Below.refl _ _).setCell (p := ⟨H + 1, 0, none⟩) (by simp) _).setCell (by simp only; omega) _

set_option maxHeartbeats 4000000 in
set_option maxRecDepth 100000 in
/-- Changes$4: so many bytes are dropped; none is open -/
theorem drop_st0 {W : World} {H : Nat} {a n : Int} {xs : List S99} (s : ByteArray) (S : St W H a false xs) (hl : xs.length + 1 ≤ 4398046511104) (hn : IntKind.i64.wrap (a + n) = a + n) :
    Calls Try.prog 62 #[.int .i64 n, .string s, .pointer (some ⟨H + 3, 0, none⟩), .pointer (some ⟨H + 1, 0, none⟩)] W fun e W' => e = .returned (.tuple #[]) ∧ St W' H (a + n) true (xs ++ [⟨a, a + n, ⟨#[]⟩⟩]) ∧ Below H W W' := by
  have Hc := Aside0.mk (change_st S hl)
  have c0 := S.bch.cell
  clear S
  go_enter Try.func62, Try.ntmps62
  go_wp2_with fail
  refine Hc.out.mono ?_
  rintro e W1 ⟨g, cap, rfl, b0, b1, b2, b3, hR, hB⟩
  have c3 := b1.cell
  have f3 := b1.froz
  have hR2 := Kd.R_far (p := ⟨H + 1, 0, none⟩) hR (fun k hk => by simp only; omega) (.int .i64 (a + n))
  obtain ⟨c, -, hM, hcell, hfr⟩ := Kd.R_elem hR2 z99 (xs.length : Int) (by omega) (by omega)
  have hy : (xs ++ [(⟨a, a, ⟨#[]⟩⟩ : S99)]).getD ((xs.length : Int)).toNat z99 = ⟨a, a, ⟨#[]⟩⟩ := by simp [List.getD_eq_getElem?_getD]
  rw [hy] at hM
  have hce := k99_openM hM
  subst hce
  have c2 : (W1.setCell ⟨H + 1, 0, none⟩ (.int .i64 (a + n))).cell? ⟨g, xs.length * 3 + 1, none⟩ = some (.int .i64 a) := hcell 1 _ rfl
  have f2 : (W1.setCell ⟨H + 1, 0, none⟩ (.int .i64 (a + n))).frozen? ⟨g, xs.length * 3 + 1, none⟩ = false := hfr 1
  obtain ⟨HL, hg⟩ := last_set (y' := ⟨a, a + n, ⟨#[]⟩⟩) hR2 1 (.int .i64 (a + n)) (by omega) rfl
  have b1' := b1.set (.int .i64 (a + n))
  have HS := Aside0.mk (show St ((W1.setCell ⟨H + 1, 0, none⟩ (.int .i64 (a + n))).setCell ⟨g, xs.length * 3 + 1, none⟩ (.int .i64 (a + n))) H (a + n) true (xs ++ [⟨a, a + n, ⟨#[]⟩⟩]) ∧ Below H W ((W1.setCell ⟨H + 1, 0, none⟩ (.int .i64 (a + n))).setCell ⟨g, xs.length * 3 + 1, none⟩ (.int .i64 (a + n))) from
    ⟨⟨⟨_, (b0.far (p := ⟨H + 1, 0, none⟩) (by simp)).far (by simp only; omega), HL⟩, b1'.far (by simp only; omega), (b2.far (p := ⟨H + 1, 0, none⟩) (by simp)).far (by simp only; omega), (b3.far (p := ⟨H + 1, 0, none⟩) (by simp)).far (by simp only; omega)⟩,
      (hB.setCell (p := ⟨H + 1, 0, none⟩) (by simp) _).setCell (by simp only; omega) _⟩)
  clear hM hcell hfr hy hR hR2 b0 b1 b1' b2 b3 hB HL hg
  go_wp2_with fail
  go_end0
  exact ⟨rfl, HS.out⟩

theorem rd56_get {l : List S56} {k : Nat} (h : k < l.length) : rd_T56 l (k : Int) = l[k] := by
  unfold rd_T56
  rw [List.getD_eq_getElem?_getD, Int.toNat_natCast, List.getElem?_eq_getElem h]; rfl

set_option maxHeartbeats 4000000 in
set_option maxRecDepth 100000 in
theorem each_walk (A : Option Addr) (c : Nat) (l : List S56) (w W : World) (hr : Kd.C k56 w A l.length l) (hl : l.length ≤ 4398046511103) (hV : Seen l) (S : St W w.heap.size 0 false []) (HB0 : Below w.heap.size w W) :
    Calls Try.prog 59 #[.slice A l.length c, .func (.func 60) #[] #[.pointer (some ⟨w.heap.size + 1, 0, none⟩), .pointer (some ⟨w.heap.size + 2, 0, none⟩)], .func (.func 61) #[] #[.pointer (some ⟨w.heap.size + 3, 0, none⟩)],
      .func (.func 62) #[] #[.pointer (some ⟨w.heap.size + 3, 0, none⟩), .pointer (some ⟨w.heap.size + 1, 0, none⟩)]] W fun e W' => e = .returned (.bool true) ∧ St W' w.heap.size (stateC l).1 (stateC l).2.1 (stateC l).2.2 ∧ Below w.heap.size w W' := by
  have HR := Aside0.mk hr
  have HV := Aside0.mk hV
  have HS := Aside0.mk S
  have HB := Aside0.mk HB0
  clear hr hV S HB0
  go_enter Try.func59, Try.ntmps59
  go_wp2_with fail
  go_loopg [13] l.length (fun kq v13 wr => ∃ (k : Nat), v13 = .int .i64 k ∧ k ≤ l.length ∧ l.length - k ≤ kq ∧ Aside0 (St wr w.heap.size (stateC (l.take k)).1 (stateC (l.take k)).2.1 (stateC (l.take k)).2.2) ∧ Aside0 (Below w.heap.size w wr))
  case atStart => exact ⟨0, rfl, Nat.zero_le _, by omega, HS, HB⟩
  case round =>
    clear HS HB
    obtain ⟨k, rfl, hk, hkq, HS, HB⟩ := hrel
    by_cases hkn : k < l.length
    · have e1 : decide ((k : Int) < (l.length : Int)) = true := decide_eq_true (by omega)
      obtain ⟨k2, hk2_⟩ : ∃ k2, k2 = k + 1 := ⟨_, rfl⟩
      have e2 : IntKind.i64.wrap ((k : Int) + 1) = (k2 : Int) := by rw [IntKind.wrap_i64]; omega
      have e3 : (k : Int) + 1 = (k2 : Int) := by omega
      have HK2 := Aside0.mk hk2_
      clear hk2_
      obtain ⟨ad, eA, x0, x1, x2⟩ := at_T56 HR.out (k : Int) (by omega) (by omega)
      cases eA
      replace x0 := (HB.out.cell (World.block_lt_of_cell? w _ x0)).trans x0
      replace x1 := (HB.out.cell (World.block_lt_of_cell? w _ x1)).trans x1
      replace x2 := (HB.out.cell (World.block_lt_of_cell? w _ x2)).trans x2
      rw [rd56_get hkn, Int.toNat_natCast] at x0 x1 x2
      have hv := HV.out k hkn
      have HT := Aside0.mk (show stateC (l.take (k + 1)) = stepC (stateC (l.take k)) l[k] by rw [List.take_succ_eq_append_getElem hkn, stateC_snoc])
      generalize l[k] = o at *
      generalize stateC (l.take k) = s at *
      obtain ⟨a, op, xs⟩ := s
      obtain ⟨f0, f1, f2⟩ := o
      simp only at *
      obtain ⟨hk1, hk2, hk3, hk4, hk5, hk6, hk7⟩ := hv
      rcases hk1 with ⟨rfl, hs2⟩ | ⟨hk1, hn1⟩
      · obtain rfl := hk2 rfl
        go_wp2_with fail
        with_reducible refine (put_st 0 f2 (HS.out.below ((Below.refl _ _).alloc (Nat.le_refl _) _)) (by omega) (by omega)).mono ?_
        rintro e W2 ⟨rfl, S2, B2⟩
        have HS2 := Aside0.mk S2
        have HB2 := Aside0.mk ((HB.out.alloc HB.out.size _).trans B2)
        clear S2 B2
        go_wp2_with fail
        go_roundg (l.length - k2)
        case measure => have := HK2.out; omega
        case rel => exact ⟨k2, rfl, by have := HK2.out; omega, Nat.le_refl _, ⟨by rw [HK2.out, HT.out, stepC_put]; exact HS2.out⟩, HB2⟩
      · have d3 : (0 : Int) ≤ f1 := by omega
        have hn : IntKind.i64.wrap (a + f1) = a + f1 := by rw [IntKind.wrap_i64]; omega
        have HN := Aside0.mk hn
        clear hn
        rcases hk1 with rfl | rfl
        · go_wp2_with fail
          with_reducible refine (keep_st ⟨#[]⟩ (HS.out.below ((Below.refl _ _).alloc (Nat.le_refl _) _)) HN.out).mono ?_
          rintro e W2 ⟨rfl, S2, B2⟩
          have HS2 := Aside0.mk S2
          have HB2 := Aside0.mk ((HB.out.alloc HB.out.size _).trans B2)
          clear S2 B2
          go_wp2_with fail
          go_roundg (l.length - k2)
          case measure => have := HK2.out; omega
          case rel => exact ⟨k2, rfl, by have := HK2.out; omega, Nat.le_refl _, ⟨by rw [HK2.out, HT.out, stepC_keep]; exact HS2.out⟩, HB2⟩
        · cases op with
          | false =>
            go_wp2_with fail
            with_reducible refine (drop_st0 ⟨#[]⟩ (HS.out.below ((Below.refl _ _).alloc (Nat.le_refl _) _)) (by omega) HN.out).mono ?_
            rintro e W2 ⟨rfl, S2, B2⟩
            have HS2 := Aside0.mk S2
            have HB2 := Aside0.mk ((HB.out.alloc HB.out.size _).trans B2)
            clear S2 B2
            go_wp2_with fail
            go_roundg (l.length - k2)
            case measure => have := HK2.out; omega
            case rel => exact ⟨k2, rfl, by have := HK2.out; omega, Nat.le_refl _, ⟨by rw [HK2.out, HT.out, stepC_drop0]; exact HS2.out⟩, HB2⟩
          | true =>
            have hx := hk3 rfl
            obtain ⟨ys, y, rfl⟩ : ∃ ys y, xs = ys ++ [y] := ⟨xs.dropLast, xs.getLast hx, (List.dropLast_concat_getLast hx).symm⟩
            have hys : ys.length + 1 ≤ k := by simpa using hk4
            clear hx hk3 hk4
            go_wp2_with fail
            with_reducible refine (drop_st1 ⟨#[]⟩ (HS.out.below ((Below.refl _ _).alloc (Nat.le_refl _) _)) (by omega) HN.out).mono ?_
            rintro e W2 ⟨rfl, S2, B2⟩
            have HS2 := Aside0.mk S2
            have HB2 := Aside0.mk ((HB.out.alloc HB.out.size _).trans B2)
            clear S2 B2
            go_wp2_with fail
            go_roundg (l.length - k2)
            case measure => have := HK2.out; omega
            case rel => exact ⟨k2, rfl, by have := HK2.out; omega, Nat.le_refl _, ⟨by rw [HK2.out, HT.out, stepC_drop1]; exact HS2.out⟩, HB2⟩
    · have e1 : decide ((k : Int) < (l.length : Int)) = false := decide_eq_false (by omega)
      obtain rfl : k = l.length := by omega
      have HS2 := HS.out
      rw [List.take_length] at HS2
      replace HS2 := Aside0.mk HS2
      clear HS
      go_wp2_with fail
      go_ret
      exact ⟨rfl, HS2.out, HB.out⟩

set_option maxHeartbeats 4000000 in
set_option maxRecDepth 100000 in
theorem changes_some (k : Nat) (A : Option Addr) (c : Nat) (l : List S56) (w : World) (hr : Kd.C k56 w A l.length l) (hc : l.length ≤ c) (hl : l.length ≤ 4398046511103) (hval : delta_Valid.f k l = some true) (hV : Seen l) :
    Calls Try.prog 44 #[.slice A l.length c] w fun e w' => ∃ v0_ : Value, e = .returned (.tuple #[v0_, .int .i64 0]) ∧ Kd.R k99 99 w' w.heap.size (fun _ => True) v0_ (changesV l) ∧ Below w.heap.size w w' := by
  have HVa := Aside0.mk (delta_Valid.calls k A c l true w hr hc hval)
  have HR := Aside0.mk hr
  have HV := Aside0.mk hV
  clear hr hV hval
  go_enter Try.func44, Try.ntmps44
  go_wp2_with fail
  refine HVa.out.mono ?_
  rintro e W1 ⟨rfl, B1⟩
  have HB1 := Aside0.mk B1
  clear B1 HVa
  go_wp2_with fail
  have h0 : St ((((W1.alloc (Obj.cells #[Value.slice none 0 0] 95)).alloc (Obj.cells #[Value.int IntKind.i64 0] 3)).alloc (Obj.cells #[Value.bool false] 4)).alloc (Obj.cells #[Value.func (Fn.func 58) #[] #[Value.pointer (some ⟨W1.heap.size + 2, 0, none⟩), Value.pointer (some ⟨W1.heap.size, 0, none⟩), Value.pointer (some ⟨W1.heap.size + 1, 0, none⟩)]] 115)) W1.heap.size 0 false [] := by
    have a1 := Box.new (W1.alloc (Obj.cells #[Value.slice none 0 0] 95)) (.int .i64 0) 3
    have a2 := Box.new ((W1.alloc (Obj.cells #[Value.slice none 0 0] 95)).alloc (Obj.cells #[Value.int IntKind.i64 0] 3)) (.bool false) 4
    have a3 := Box.new (((W1.alloc (Obj.cells #[Value.slice none 0 0] 95)).alloc (Obj.cells #[Value.int IntKind.i64 0] 3)).alloc (Obj.cells #[Value.bool false] 4)) (.func (Fn.func 58) #[] #[Value.pointer (some ⟨W1.heap.size + 2, 0, none⟩), Value.pointer (some ⟨W1.heap.size, 0, none⟩), Value.pointer (some ⟨W1.heap.size + 1, 0, none⟩)]) 115
    simp only [World.size_alloc] at a1 a2 a3
    exact ⟨⟨_, (((Box.new W1 _ _).alloc _).alloc _).alloc _, Kd.R_nil _ _ _ _ _⟩, (a1.alloc _).alloc _, a2.alloc _, a3⟩
  have hB0 := ((((Below.refl W1.heap.size W1).alloc (Nat.le_refl _) (Obj.cells #[Value.slice none 0 0] 95)).alloc (by simp) (Obj.cells #[Value.int IntKind.i64 0] 3)).alloc (by simp; omega) (Obj.cells #[Value.bool false] 4)).alloc (by simp; omega) (Obj.cells #[Value.func (Fn.func 58) #[] #[Value.pointer (some ⟨W1.heap.size + 2, 0, none⟩), Value.pointer (some ⟨W1.heap.size, 0, none⟩), Value.pointer (some ⟨W1.heap.size + 1, 0, none⟩)]] 115)
  have hE := Aside0.mk (each_walk A c l W1 _ (Kd.C_below HR.out HB1.out) hl HV.out h0 hB0)
  clear h0 hB0
  refine hE.out.mono ?_
  rintro e W2 ⟨rfl, S2, B2⟩
  have HS2 := Aside0.mk S2
  have HB2 := Aside0.mk B2
  obtain ⟨⟨v, b0, hR⟩, -, -, -⟩ := S2
  have HR2 := Aside0.mk hR
  have c0 := b0.cell
  clear b0 hR B2 hE
  obtain ⟨A2, c2, rfl⟩ := Kd.R_slice HR2.out
  go_wp2_with fail
  go_ret2
  refine ⟨_, rfl, Kd.R_mono (Kd.R_lower HR2.out (by have := HB1.out.size; omega)) (fun _ _ => trivial), below_then HB1.out HB1.out.size HB2.out⟩

set_option maxHeartbeats 4000000 in
set_option maxRecDepth 100000 in
theorem changes_none (k : Nat) (A : Option Addr) (c : Nat) (l : List S56) (w : World) (hr : Kd.C k56 w A l.length l) (hc : l.length ≤ c) (hval : delta_Valid.f k l = some false) :
    Calls Try.prog 44 #[.slice A l.length c] w fun e w' => e = .returned (.tuple #[.slice none 0 0, .int .i64 130]) ∧ Below w.heap.size w w' := by
  have HVa := Aside0.mk (delta_Valid.calls k A c l false w hr hc hval)
  clear hr hval
  go_enter Try.func44, Try.ntmps44
  go_wp2_with fail
  refine HVa.out.mono ?_
  rintro e W1 ⟨rfl, B1⟩
  have HB1 := Aside0.mk B1
  clear B1 HVa
  go_wp2_with fail
  go_ret2
  exact ⟨rfl, HB1.out⟩

def delta_Changes.f (k : Nat) (l : List S56) : Option (List S99 × Int) := if saneB l = true then (delta_Valid.f k l).bind (fun v => some (if v then (changesV l, 0) else ([], 130))) else none
theorem delta_Changes.mono : ∀ a0 k, LeO (delta_Changes.f k a0) (delta_Changes.f (k + 1) a0) := by
  intro l k
  unfold delta_Changes.f
  exact LeO.ite (LeO.bind (delta_Valid.mono l k) (fun _ => LeO.refl _)) (LeO.none _)
theorem delta_Changes.calls (k : Nat) (A0 : Option Addr) (c0 : Nat) (l0 : List S56) (r1 : List S99) (r2 : Int) (w : World) (hr0 : Kd.C k56 w A0 l0.length l0) (hc0 : l0.length ≤ c0) (h : delta_Changes.f k l0 = some (r1, r2)) :
    Calls Try.prog 44 #[.slice A0 l0.length c0] w fun e w' => ∃ v0_ : Value, e = .returned (.tuple #[v0_, .int .i64 r2]) ∧ Kd.R k99 99 w' w.heap.size (fun _ => True) v0_ r1 ∧ Below w.heap.size w w' := by
  unfold delta_Changes.f at h
  split at h
  · rename_i hs
    obtain ⟨b, hb, h⟩ := Option.bind_eq_some_iff.1 h
    cases b with
    | true =>
      simp only [if_true, Option.some.injEq, Prod.mk.injEq] at h
      obtain ⟨rfl, rfl⟩ := h
      have hv := (valid_some ((saneB_iff l0).1 hs) hb).symm
      obtain ⟨h1, ft, -, h3, h4, h5, h6, h7, -⟩ := seen_of_valid hv
      exact changes_some k A0 c0 l0 w hr0 hc0 (by omega) hb h1
    | false =>
      simp only [Bool.false_eq_true, if_false, Option.some.injEq, Prod.mk.injEq] at h
      obtain ⟨rfl, rfl⟩ := h
      refine (changes_none k A0 c0 l0 w hr0 hc0 hb).mono ?_
      rintro e w' ⟨rfl, hb⟩
      exact ⟨_, rfl, Kd.R_nil _ _ _ _ _, hb⟩
  · cases h
end Go.Proofs.Ytjladdjpnicldaa.PA
