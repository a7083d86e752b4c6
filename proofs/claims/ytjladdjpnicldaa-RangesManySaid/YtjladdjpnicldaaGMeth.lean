/- The methods of '*Ranges' but for the lists: New, Len, Get, Set, Drop, over objects (RObj). Conditions: names are texts that there are; the rows of an object bear different names, fewer than 2^40. -/
import Derived.Test.YtjladdjpnicldaaObj
import Derived.Test.YtjladdjpnicldaaPAx6
namespace Go.Proofs.Ytjladdjpnicldaa.PA
open Go.RowKit Go.Maps Go.Proofs.YtjladdjpnicldaaW.PrintWords Go.Proofs.YtjladdjpnicldaaW.PrintLast Go.Proofs.YtjladdjpnicldaaW.PrintMore

theorem cell_later {w : World} {a : Addr} {v : Value} (h : w.cell? a = some v) (o : Obj) : (w.alloc o).cell? a = some v := (((Below.refl w.heap.size w).alloc (Nat.le_refl _) o).cell (World.block_lt_of_cell? w _ h)).trans h
theorem lawStr : Keyed Try.prog 9 := string_keyed Try.underlying9
theorem zero24 (w : World) : (zeroValue 24).run Try.prog w = .ok (encR z24) w := by kernel_rfl
theorem look_rows {W : World} {m cnt : Nat} {D : DataW Unit} {rows : List S24} (ho : W.ownsMap Try.prog 9 readR m cnt D) (ha : Agree D rows) {s : ByteArray} (hs : s.size ≤ maxLen) :
    (Instr.lookup 73 (.map (some m)) (.string s) true).run Try.prog W = .ok (.tuple #[encR ((getV rows s).getD z24), .bool (getV rows s).isSome]) W := by
  obtain ⟨v, ps, hrun, hv⟩ := ho.look_ok lawStr Try.underlying73 (zero24 _) (readR_enc z24) (Go.WideMaps.keyOf_string_mk Try.underlying9 hs)
  have e1 := ha.has_eq s
  have e2 := ha.at_eq s
  unfold keyL at e1 e2
  rw [e1] at hrun
  rw [e2] at hv
  obtain ⟨x, rfl, hx⟩ := readR_inv hv
  simp only [Prod.mk.injEq] at hx
  rw [datR_inj hx.1]
  exact hrun
theorem obj_new (W : World) (n : Int) : RObj ((W.alloc (.map #[] 0)).alloc (.cells #[.int .i64 n, .map (some W.heap.size)] 75)) (W.heap.size + 1) n [] := by
  have h1 := (MapKept.heap_alloc (W.alloc (.map #[] 0)) (.cells #[.int .i64 n, .map (some W.heap.size)] 75)).1
  rw [World.size_alloc] at h1
  exact ⟨W.heap.size, .map [], h1, (World.ownsMap_made W Try.prog 9 readR).alloc _, agree_empty⟩

set_option maxHeartbeats 1000000 in
set_option maxRecDepth 100000 in
theorem new_bad (n : Int) (w : World) (h : n < 0 ∨ 268435456 < n) :
    Calls Try.prog 20 #[.int .i64 n] w fun e w' => e = .returned (.tuple #[.pointer none, .int .i64 2]) ∧ Below w.heap.size w w' := by
  have hmm := @run_makeMap Try.prog
  by_cases c : n < 0
  · have d1 : decide (n < 0) = true := decide_eq_true c
    clear h c
    go_enter Try.func20, Try.ntmps20
    go_wp2_with fail
    go_ret2
    exact ⟨rfl, Below.refl _ _⟩
  · have d1 : decide (n < 0) = false := decide_eq_false c
    have d2 : decide (268435456 < n) = true := decide_eq_true (by omega)
    clear h c
    go_enter Try.func20, Try.ntmps20
    go_wp2_with fail
    go_ret2
    exact ⟨rfl, Below.refl _ _⟩

set_option maxHeartbeats 1000000 in
set_option maxRecDepth 100000 in
theorem new_ok (n : Int) (w : World) (h0 : 0 ≤ n) (h1 : n ≤ 268435456) :
    Calls Try.prog 20 #[.int .i64 n] w fun e w' => ∃ b, e = .returned (.tuple #[.pointer (some ⟨b, 0, none⟩), .int .i64 0]) ∧ RObj w' b n [] ∧ Below w.heap.size w w' := by
  have hmm := @run_makeMap Try.prog
  have d1 : decide (n < 0) = false := decide_eq_false (by omega)
  have d2 : decide (268435456 < n) = false := decide_eq_false (by omega)
  have HO := Aside0.mk (obj_new w n)
  clear h0 h1
  go_enter Try.func20, Try.ntmps20
  go_wp2_with fail
  go_ret2
  exact ⟨_, rfl, HO.out, ((Below.refl _ _).alloc (Nat.le_refl _) _).alloc (by simp) _⟩

set_option maxHeartbeats 1000000 in
set_option maxRecDepth 100000 in
theorem len_nil (w : World) : Calls Try.prog 16 #[.pointer none] w fun e w' => e = .returned (.int .i64 0) ∧ Below w.heap.size w w' := by
  go_enter Try.func16, Try.ntmps16
  go_wp2_with fail
  go_ret
  exact ⟨rfl, Below.refl _ _⟩
set_option maxHeartbeats 1000000 in
set_option maxRecDepth 100000 in
theorem len_obj (w : World) (b : Nat) (n : Int) (rows : List S24) (h : RObj w b n rows) : Calls Try.prog 16 #[.pointer (some ⟨b, 0, none⟩)] w fun e w' => e = .returned (.int .i64 n) ∧ Below w.heap.size w w' := by
  obtain ⟨m, D, hb, -⟩ := h
  have c0 : w.cell? ⟨b, 0, none⟩ = some (.int .i64 n) := (blk_cell hb 0).trans rfl
  clear hb
  go_enter Try.func16, Try.ntmps16
  go_wp2_with fail
  go_ret
  exact ⟨rfl, Below.refl _ _⟩

set_option maxHeartbeats 1000000 in
set_option maxRecDepth 100000 in
theorem get_nil (s : ByteArray) (w : World) : Calls Try.prog 15 #[.pointer none, .string s] w fun e w' => e = .returned (.tuple #[encR z24, .bool false]) ∧ Below w.heap.size w w' := by
  go_enter Try.func15, Try.ntmps15
  go_wp2_with fail
  refine bodyPost_ret (v := .tuple #[encR z24, .bool false]) (by simp [results, Try.results15, go_sem, encR, z24]) rfl ⟨rfl, (Below.refl _ _).alloc (Nat.le_refl _) _⟩
set_option maxHeartbeats 1000000 in
set_option maxRecDepth 100000 in
theorem get_obj (s : ByteArray) (w : World) (b : Nat) (n : Int) (rows : List S24) (h : RObj w b n rows) (hs : s.size ≤ maxLen) : Calls Try.prog 15 #[.pointer (some ⟨b, 0, none⟩), .string s] w fun e w' =>
    e = .returned (.tuple #[encR ((getV rows s).getD z24), .bool (getV rows s).isSome]) ∧ Below w.heap.size w w' := by
  obtain ⟨m, D, hb, ho, ha⟩ := h
  have c1 : (w.alloc (.cells #[.string ⟨#[]⟩, .int .i64 0, .int .i64 0, .int .i64 0, .int .i64 0] 24)).cell? ⟨b, 1, none⟩ = some (.map (some m)) := (blk_cell (blk_alloc hb _) 1).trans rfl
  have hkey := Go.WideMaps.keyOf_string_mk Try.underlying9 hs
  obtain ⟨v, ps, hrun, hv⟩ := (ho.alloc (.cells #[.string ⟨#[]⟩, .int .i64 0, .int .i64 0, .int .i64 0, .int .i64 0] 24)).look_ok lawStr Try.underlying73 (zero24 _) (readR_enc z24) hkey
  have e1 := ha.has_eq s
  have e2 := ha.at_eq s
  unfold keyL at e1 e2
  rw [e1] at hrun
  rw [e2] at hv
  obtain ⟨x, rfl, hx⟩ := readR_inv hv
  simp only [Prod.mk.injEq] at hx
  have hx2 := datR_inj hx.1
  generalize (getV rows s).isSome = ok at hrun ⊢
  generalize (getV rows s).getD z24 = y at hx2 ⊢
  subst hx2
  obtain ⟨y0, y1, y2, y3, y4⟩ := y
  unfold encR at hrun
  simp only at hrun
  clear hb ho ha hkey e1 e2 hv hx
  go_enter Try.func15, Try.ntmps15
  go_wp2_with fail
  refine bodyPost_ret (v := .tuple #[encR ⟨y0, y1, y2, y3, y4⟩, .bool ok]) (by simp [results, Try.results15, go_sem, encR]) rfl ⟨rfl, ?_⟩
  exact ((Below.refl _ _).alloc (Nat.le_refl _) _).alloc (by simp) _

def gravV (g : Int) : Bool := g == 1 || g == 2
set_option maxHeartbeats 1000000 in
set_option maxRecDepth 100000 in
theorem gravity_walk (g : Int) (w : World) : Calls Try.prog 28 #[.int .i64 g] w fun e w' => e = .returned (.bool (gravV g)) ∧ w' = w := by
  by_cases c : g = 1
  · subst c
    go_enter Try.func28, Try.ntmps28
    go_wp2_with fail
    go_ret
    exact ⟨rfl, rfl⟩
  · have d1 : (g == 1) = false := beq_eq_false_iff_ne.2 c
    have HG := Aside0.mk (show gravV g = (g == 2) by unfold gravV; rw [d1]; rfl)
    clear c
    go_enter Try.func28, Try.ntmps28
    go_wp2_with fail
    go_ret
    exact ⟨by rw [HG.out]; rfl, rfl⟩

/-- Set's error's number -/
def setE (n : Int) (rows : List S24) (x : S24) : Int :=
  if x.f0.size = 0 ∨ 64 < x.f0.size then 6
  else if x.f1 < 0 ∨ x.f1 ≥ x.f2 ∨ x.f2 > n ∨ gravV x.f3 = false ∨ gravV x.f4 = false then 2
  else if (getV rows x.f0).isSome = false ∧ 1024 ≤ rows.length then 121 else 0

set_option maxHeartbeats 1000000 in
set_option maxRecDepth 100000 in
theorem set_nil (x : S24) (w : World) : Calls Try.prog 11 #[.pointer none, encR x] w fun e w' => e = .returned (.tuple #[.pointer none, .int .i64 1]) ∧ Below w.heap.size w w' := by
  obtain ⟨x0, x1, x2, x3, x4⟩ := x
  unfold encR
  go_enter Try.func11, Try.ntmps11
  go_wp2_with fail
  go_ret2
  exact ⟨rfl, (Below.refl _ _).alloc (Nat.le_refl _) _⟩

set_option maxHeartbeats 1000000 in
set_option maxRecDepth 100000 in
theorem set_name (x : S24) (w : World) (p : Addr) (h : x.f0.size = 0 ∨ 64 < x.f0.size) : Calls Try.prog 11 #[.pointer (some p), encR x] w fun e w' => e = .returned (.tuple #[.pointer none, .int .i64 6]) ∧ Below w.heap.size w w' := by
  obtain ⟨x0, x1, x2, x3, x4⟩ := x
  simp only at h
  unfold encR
  by_cases c : x0.size = 0
  · have d1 : ((x0.size : Int) == 0) = true := by rw [c]; rfl
    clear h c
    go_enter Try.func11, Try.ntmps11
    go_wp2_with fail
    go_ret2
    exact ⟨rfl, (Below.refl _ _).alloc (Nat.le_refl _) _⟩
  · have d1 : ((x0.size : Int) == 0) = false := beq_eq_false_iff_ne.2 (by omega)
    have d2 : decide (64 < (x0.size : Int)) = true := decide_eq_true (by omega)
    clear h c
    go_enter Try.func11, Try.ntmps11
    go_wp2_with fail
    go_ret2
    exact ⟨rfl, (Below.refl _ _).alloc (Nat.le_refl _) _⟩

set_option maxHeartbeats 4000000 in
set_option maxRecDepth 100000 in
theorem set_range (x : S24) (w : World) (b : Nat) (n : Int) (rows : List S24) (h : RObj w b n rows) (h0 : ¬ (x.f0.size = 0 ∨ 64 < x.f0.size)) (h1 : x.f1 < 0 ∨ x.f1 ≥ x.f2 ∨ x.f2 > n ∨ gravV x.f3 = false ∨ gravV x.f4 = false) :
    Calls Try.prog 11 #[.pointer (some ⟨b, 0, none⟩), encR x] w fun e w' => e = .returned (.tuple #[.pointer none, .int .i64 2]) ∧ Below w.heap.size w w' := by
  obtain ⟨x0, x1, x2, x3, x4⟩ := x
  simp only at h0 h1
  unfold encR
  obtain ⟨m, D, hb, ho, ha⟩ := h
  have c0 : w.cell? ⟨b, 0, none⟩ = some (.int .i64 n) := (blk_cell hb 0).trans rfl
  have c1 := (blk_cell (blk_alloc hb (.cells #[.string x0, .int .i64 x1, .int .i64 x2, .int .i64 x3, .int .i64 x4] 24)) 0).trans rfl
  have d1 : ((x0.size : Int) == 0) = false := beq_eq_false_iff_ne.2 (by omega)
  have d2 : decide (64 < (x0.size : Int)) = false := decide_eq_false (by omega)
  clear hb ho ha h0
  by_cases e1 : x1 < 0
  · have d3 : decide (x1 < 0) = true := decide_eq_true e1
    have hg3 := True.intro
    have hg4 := True.intro
    clear h1 e1
    go_enter Try.func11, Try.ntmps11
    go_wp2_with fail
    go_quiet ((go_at_call 28; first | exact Calls.quiet_of_same (hg3 _) | exact Calls.quiet_of_same (hg4 _)))
    go_wp2_with fail
    go_ret2
    refine ⟨rfl, ?_⟩
    clear hg3 hg4
    repeat (first | exact Below.refl _ _ | exact (Below.refl _ _).alloc (Nat.le_refl _) _ | apply pw_below_drewN)
  · by_cases e2 : x2 ≤ x1
    · have d3 : decide (x1 < 0) = false := decide_eq_false e1
      have d4 : decide (x2 ≤ x1) = true := decide_eq_true e2
      have hg3 := True.intro
      have hg4 := True.intro
      clear h1 e1 e2
      go_enter Try.func11, Try.ntmps11
      go_wp2_with fail
      go_quiet ((go_at_call 28; first | exact Calls.quiet_of_same (hg3 _) | exact Calls.quiet_of_same (hg4 _)))
      go_wp2_with fail
      go_ret2
      refine ⟨rfl, ?_⟩
      clear hg3 hg4
      repeat (first | exact Below.refl _ _ | exact (Below.refl _ _).alloc (Nat.le_refl _) _ | apply pw_below_drewN)
    · by_cases e3 : n < x2
      · have d3 : decide (x1 < 0) = false := decide_eq_false e1
        have d4 : decide (x2 ≤ x1) = false := decide_eq_false e2
        have d5 : decide (n < x2) = true := decide_eq_true e3
        have hg3 := True.intro
        have hg4 := True.intro
        clear h1 e1 e2 e3
        go_enter Try.func11, Try.ntmps11
        go_wp2_with fail
        go_quiet ((go_at_call 28; first | exact Calls.quiet_of_same (hg3 _) | exact Calls.quiet_of_same (hg4 _)))
        go_wp2_with fail
        go_ret2
        refine ⟨rfl, ?_⟩
        clear hg3 hg4
        repeat (first | exact Below.refl _ _ | exact (Below.refl _ _).alloc (Nat.le_refl _) _ | apply pw_below_drewN)
      · by_cases e4 : gravV x3 = false
        · have d3 : decide (x1 < 0) = false := decide_eq_false e1
          have d4 : decide (x2 ≤ x1) = false := decide_eq_false e2
          have d5 : decide (n < x2) = false := decide_eq_false e3
          have hg3 : ∀ W, Calls Try.prog 28 #[.int .i64 x3] W fun e w' => e = .returned (.bool false) ∧ w' = W := fun W => by have := gravity_walk x3 W; rwa [e4] at this
          have hg4 := True.intro
          clear h1 e1 e2 e3 e4
          go_enter Try.func11, Try.ntmps11
          go_wp2_with fail
          go_quiet ((go_at_call 28; first | exact Calls.quiet_of_same (hg3 _) | exact Calls.quiet_of_same (hg4 _)))
          go_wp2_with fail
          go_ret2
          refine ⟨rfl, ?_⟩
          clear hg3 hg4
          repeat (first | exact Below.refl _ _ | exact (Below.refl _ _).alloc (Nat.le_refl _) _ | apply pw_below_drewN)
        · have e5 : gravV x4 = false := by
            rcases h1 with h | h | h | h | h
            · exact absurd h e1
            · exact absurd h e2
            · exact absurd h e3
            · exact absurd h e4
            · exact h
          replace e4 := Bool.of_not_eq_false e4
          have d3 : decide (x1 < 0) = false := decide_eq_false e1
          have d4 : decide (x2 ≤ x1) = false := decide_eq_false e2
          have d5 : decide (n < x2) = false := decide_eq_false e3
          have hg3 : ∀ W, Calls Try.prog 28 #[.int .i64 x3] W fun e w' => e = .returned (.bool true) ∧ w' = W := fun W => by have := gravity_walk x3 W; rwa [e4] at this
          have hg4 : ∀ W, Calls Try.prog 28 #[.int .i64 x4] W fun e w' => e = .returned (.bool false) ∧ w' = W := fun W => by have := gravity_walk x4 W; rwa [e5] at this
          clear h1 e1 e2 e3 e4 e5
          go_enter Try.func11, Try.ntmps11
          go_wp2_with fail
          go_quiet ((go_at_call 28; first | exact Calls.quiet_of_same (hg3 _) | exact Calls.quiet_of_same (hg4 _)))
          go_wp2_with fail
          go_ret2
          refine ⟨rfl, ?_⟩
          clear hg3 hg4
          repeat (first | exact Below.refl _ _ | exact (Below.refl _ _).alloc (Nat.le_refl _) _ | apply pw_below_drewN)

end Go.Proofs.Ytjladdjpnicldaa.PA
