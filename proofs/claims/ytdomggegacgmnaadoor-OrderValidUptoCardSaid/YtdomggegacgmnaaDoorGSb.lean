/- The sort's world: a row of one-cell values (type 22) that is turned while all else stays; swapRange and insertionSort of slices.SortStableFunc at it, 'cmp' a closure that lays and draws what it wants. -/
import Derived.Test.YtdomggegacgmnaaDoorGCompare
import Derived.Test.YtdomggegacgmnaaDoorStable
import Derived.Lib.QuietBelow
import Derived.BigRegion
import Derived.BigQuiet
import Derived.Deep.QuietTactic
namespace Go.Proofs.YtdomggegacgmnaaDoor.PA
open Go.Sort Go.RowKit Go.Proofs.YtdomggegacgmnaaDoorW.PrintWords Go.Proofs.YtdomggegacgmnaaDoorW.PrintLast Go.Proofs.YtdomggegacgmnaaDoorW.PrintMore
variable {α : Type} {enc : α → Value} {w0 W : World} {g : Nat} {rest : List Value} {d : Array α}

/-- a world of the sort: the block g holds the row (and what is behind it), all else is as it was -/
structure SB (enc : α → Value) (w0 : World) (g : Nat) (rest : List Value) (d : Array α) (W : World) : Prop where
  kept : w0.grownBy W (some g)
  row : W.heap[g]? = some (.cells (d.map enc ++ rest.toArray) 22 (0, 0))
theorem SB.below (h : SB enc w0 g rest d W) {W' : World} (hb : Below W.heap.size W W') : SB enc w0 g rest d W' :=
  ⟨⟨hb.os.trans h.kept.os, hb.tape.trans h.kept.tape, hb.output.trans h.kept.output, Nat.le_trans h.kept.size hb.size, fun k hk hne => (hb.block k (Nat.lt_of_lt_of_le hk h.kept.size)).trans (h.kept.block k hk hne)⟩, (hb.block g (blk_lt h.row)).trans h.row⟩
theorem SB.drew (h : SB enc w0 g rest d W) : SB enc w0 g rest d W.drew := h.below ((Below.refl _ _).drew)
theorem SB.drewN (h : SB enc w0 g rest d W) (n : Nat) : SB enc w0 g rest d (W.drewN n) := h.below (pw_below_drewN (Below.refl _ _) n)
theorem SB.frozen (h : SB enc w0 g rest d W) (i : Nat) : W.frozen? ⟨g, i, none⟩ = false := blk_frozen h.row i
theorem SB.cell [Inhabited α] (h : SB enc w0 g rest d W) (i : Nat) (hi : i < d.size) : W.cell? ⟨g, i, none⟩ = some (enc d[i]!) := by
  rw [blk_cell h.row, Array.getElem?_append_left (by simpa using hi)]
  simp [hi]
theorem SB.swap [Inhabited α] (h : SB enc w0 g rest d W) (i j : Nat) (hi : i < d.size) (hj : j < d.size) :
    SB enc w0 g rest (swp d i j) ((W.setCell ⟨g, i, none⟩ (enc d[j]!)).setCell ⟨g, j, none⟩ (enc d[i]!)) := by
  have h1 := blk_set h.row i (enc d[j]!)
  have h2 := blk_set h1 j (enc d[i]!)
  have sz : ∀ (w : World) (a : Addr) (v : Value), (w.setCell a v).heap.size = w.heap.size := fun w a v => by simp
  refine ⟨⟨?_, ?_, ?_, ?_, fun k hk hne => ?_⟩, ?_⟩
  · exact (show ((W.setCell ⟨g, i, none⟩ (enc d[j]!)).setCell ⟨g, j, none⟩ (enc d[i]!)).os = W.os by simp [World.setCell]).trans h.kept.os
  · exact (show ((W.setCell ⟨g, i, none⟩ (enc d[j]!)).setCell ⟨g, j, none⟩ (enc d[i]!)).tape = W.tape by simp [World.setCell]).trans h.kept.tape
  · exact (show ((W.setCell ⟨g, i, none⟩ (enc d[j]!)).setCell ⟨g, j, none⟩ (enc d[i]!)).output = W.output by simp [World.setCell]).trans h.kept.output
  · rw [sz, sz]; exact h.kept.size
  · have : k ≠ g := fun e => hne (by rw [e])
    rw [Below.heap_setCell _ ⟨g, j, none⟩ _ k this, Below.heap_setCell _ ⟨g, i, none⟩ _ k this]
    exact h.kept.block k hk hne
  · rw [h2]
    congr 2
    unfold swp
    rw [Array.setIfInBounds_append_left (by simpa using hi), Array.setIfInBounds_append_left (by simpa using hj), Array.map_setIfInBounds, Array.map_setIfInBounds]
/-- behind the exchange's first store the second place still holds something -/
theorem SB.c2 [Inhabited α] (h : SB enc w0 g rest d W) (i j : Nat) (hi : i < d.size) (hj : j < d.size) (v : Value) : ∃ u, (W.setCell ⟨g, i, none⟩ v).cell? ⟨g, j, none⟩ = some u := by
  by_cases e : i = j
  · subst e; exact ⟨v, World.cell?_setCell_same _ _ _ (h.cell i hi)⟩
  · exact ⟨_, (World.cell?_setCell_other _ _ _ _ (by intro e'; simp only [Addr.mk.injEq] at e'; omega)).trans (h.cell j hj)⟩
/-- what 'cmp' is asked: in every world of the sort it hands back cf x y; what was there stays -/
def CmpB (P : Program) (c : Nat) (cb : Array Value) (enc : α → Value) (cf : α → α → Int) (w0 : World) (g : Nat) (rest : List Value) (n : Nat) : Prop :=
  ∀ (d : Array α) (W : World), d.size = n → SB enc w0 g rest d W → ∀ x y : α, Calls P c (#[enc x, enc y] ++ cb) W fun e w' => e = .returned (.int .i64 (cf x y)) ∧ Below W.heap.size W w'
theorem CmpB.at {P : Program} {c : Nat} {cb : Array Value} {cf : α → α → Int} {n : Nat} (h : CmpB P c cb enc cf w0 g rest n) (hs : d.size = n) (S : SB enc w0 g rest d W) (x y : α) (k : Nat) (os : Array Obj) :
    Calls P c (#[enc x, enc y] ++ cb) (grow (redrawn W k) os) fun e w'' => e = .returned (.int .i64 (cf x y)) ∧ ∃ p : Regrown, w'' = grow (redrawn W p.d) p.os :=
  Calls.regrown_of (h d _ hs (S.below (below_regrown W k os)) x y)
theorem SB.cl [Inhabited α] (h : SB enc w0 g rest d W) (i : Nat) (hi : i < d.size) (n : Nat) (os : Array Obj) : (grow (redrawn W n) os).cell? ⟨g, i, none⟩ = some (enc d[i]!) := cell_regrown (h.cell i hi) n os
def ltOf (cf : α → α → Int) (x y : α) : Bool := decide (cf x y < 0)
theorem one_cells {v : Value} (h : v.oneCell' = true) : v.cells = #[v] := by
  cases v <;> first | rfl | simp [Value.oneCell'] at h

theorem one_store {v : Value} (h : v.oneCell' = true) (a : Addr) (m : Mode) (W : World) : (store a v m).run Tryd.prog W = stored Tryd.prog W a v m := run_store Tryd.prog W a v m h

set_option maxHeartbeats 8000000 in
set_option maxRecDepth 100000 in
theorem swapRange_walk [Inhabited α] (h1 : ∀ x, (enc x).oneCell' = true) (cap a b n : Nat) (cv : Value) (d : Array α) (W : World) (S : SB enc w0 g rest d W) (hab : a + n ≤ d.size) (hb : b + n ≤ d.size) (hsz : d.size < 4611686018427387904) :
    Calls Tryd.prog 67 #[.slice (some ⟨g, 0, none⟩) d.size cap, .int .i64 a, .int .i64 b, .int .i64 n, cv] W fun e w' => e = .returned (.tuple #[]) ∧ SB enc w0 g rest (swapR d a b n) w' := by
  have S0 := Aside0.mk S
  clear S
  go_enter Tryd.func67, Tryd.ntmps67
  go_wp2_with fail
  go_loopg [10] n (fun m v wr => ∃ (i : Nat), v = .int .i64 i ∧ i ≤ n ∧ n - i ≤ m ∧ Aside0 (SB enc w0 g rest (swapR d a b i) wr))
  case atStart => exact ⟨0, rfl, by omega, by omega, S0⟩
  case round =>
    clear S0
    obtain ⟨i, rfl, hi, hm, S1⟩ := hrel
    by_cases h : i < n
    · have e1 : decide ((i : Int) < (n : Int)) = true := decide_eq_true (by omega)
      obtain ⟨dk, hdk⟩ : ∃ dk, dk = swapR d a b i := ⟨_, rfl⟩
      have hsk : dk.size = d.size := by rw [hdk, size_swapR]
      have HD := Aside0.mk (show swapR d a b (i + 1) = swp dk (a + i) (b + i) by rw [swapR, hdk])
      rw [← hdk] at S1
      clear hdk
      obtain ⟨p, hp⟩ : ∃ p, p = a + i := ⟨_, rfl⟩
      obtain ⟨q, hq⟩ : ∃ q, q = b + i := ⟨_, rfl⟩
      have ep : IntKind.i64.wrap ((a : Int) + (i : Int)) = (p : Int) := by rw [IntKind.wrap_i64]; omega
      have eq : IntKind.i64.wrap ((b : Int) + (i : Int)) = (q : Int) := by rw [IntKind.wrap_i64]; omega
      have zp : (a : Int) + (i : Int) = (p : Int) := by omega
      have zq : (b : Int) + (i : Int) = (q : Int) := by omega
      have bp : (p : Int) < (d.size : Int) := by omega
      have bq : (q : Int) < (d.size : Int) := by omega
      have c1 := S1.out.cell p (by omega)
      have c2 := S1.out.cell q (by omega)
      have f1 := S1.out.frozen p
      have f2 := S1.out.frozen q
      have SW := Aside0.mk (S1.out.swap p q (by omega) (by omega)).drew
      obtain ⟨u, c3⟩ := S1.out.c2 p q (by omega) (by omega) (enc dk[q]!)
      rw [← hp, ← hq] at HD
      have ox := h1 dk[p]!
      have oy := h1 dk[q]!
      generalize enc dk[p]! = x at *
      generalize enc dk[q]! = y at *
      have kx := one_cells ox
      have ky := one_cells oy
      simp only [Value.cells] at kx ky
      have tx := one_store ox
      have ty := one_store oy
      clear ox oy
      clear S1 hp hq
      go_wp2_with fail
      go_big_region
      clear c1 c2 c3 f1 f2 kx ky tx ty
      generalize ((wr.setCell ⟨g, p, none⟩ y).setCell ⟨g, q, none⟩ x).drew = W2 at SW ⊢
      go_wp2_with fail
      go_roundg (n - (i + 1))
      case measure => omega
      case rel => exact ⟨i + 1, by go_num, by omega, by omega, ⟨by rw [HD.out]; exact SW.out⟩⟩
    · have e1 : decide ((i : Int) < (n : Int)) = false := decide_eq_false (by omega)
      obtain rfl : i = n := by omega
      go_wp2_with fail
      go_end0
      exact ⟨rfl, S1.out⟩

theorem ins_go [Inhabited α] (lt : α → α → Bool) (a j : Nat) (d : Array α) (hj : a < j) (hl : lt d[j]! d[j - 1]! = true) : insInner lt a j d = insInner lt a (j - 1) (swp d j (j - 1)) := by
  obtain ⟨k, rfl⟩ : ∃ k, j = k + 1 := ⟨j - 1, by omega⟩
  rw [insInner]
  simp only [Nat.add_sub_cancel] at hl ⊢
  rw [if_pos (by simp [hl]; omega)]
theorem ins_stop [Inhabited α] (lt : α → α → Bool) (a j : Nat) (d : Array α) (h : j ≤ a ∨ lt d[j]! d[j - 1]! = false) : insInner lt a j d = d := by
  cases j with
  | zero => rw [insInner]
  | succ k =>
    rw [insInner, if_neg]
    rcases h with h | h
    · simp; omega
    · simp only [Nat.add_sub_cancel] at h; simp [h]

set_option maxHeartbeats 16000000 in
set_option maxRecDepth 100000 in
theorem insertion_walk [Inhabited α] (h1 : ∀ x, (enc x).oneCell' = true) (cf : α → α → Int) (cb : Array Value) (cap a b n : Nat) (d : Array α) (W : World) (HC : CmpB Tryd.prog 35 cb enc cf w0 g rest n) (hn : d.size = n) (S : SB enc w0 g rest d W) (hab : a ≤ b) (hb : b ≤ n) (hsz : n < 4611686018427387904) :
    Calls Tryd.prog 57 #[.slice (some ⟨g, 0, none⟩) n cap, .int .i64 a, .int .i64 b, .func (.func 35) #[] cb] W fun e w' => e = .returned (.tuple #[]) ∧ SB enc w0 g rest (insertionSort (ltOf cf) d a b) w' := by
  have S0 := Aside0.mk S
  have HC := Aside0.mk HC
  clear S
  go_enter Tryd.func57, Tryd.ntmps57
  go_wp2_with fail
  go_loopg [8] (b - a) (fun g1 vi wr => ∃ (i : Nat) (dk : Array α), vi = .int .i64 i ∧ a < i ∧ i ≤ b + 1 ∧ b + 1 - i ≤ g1 + 1 ∧ dk.size = n ∧ Aside0 (SB enc w0 g rest dk wr) ∧ Aside0 (insOuter (ltOf cf) a b i dk = insOuter (ltOf cf) a b (a + 1) d))
  case atStart => exact ⟨a + 1, d, by go_num, by omega, by omega, by omega, hn, S0, ⟨rfl⟩⟩
  case round =>
    clear S0
    obtain ⟨i, dk, rfl, hai, hib, hg1, hsk, S1, HO⟩ := hrel
    by_cases hlt : i < b
    · have hltz : decide ((i : Int) < (b : Int)) = true := decide_eq_true (by omega)
      go_wp2_with fail
      go_loopg [9] i (fun g2 vj wr2 => ∃ (j : Nat) (dj : Array α), vj = .int .i64 j ∧ a ≤ j ∧ j ≤ i ∧ j ≤ g2 ∧ dj.size = n ∧ Aside0 (SB enc w0 g rest dj wr2) ∧ Aside0 (insInner (ltOf cf) a j dj = insInner (ltOf cf) a i dk))
      case atStart => exact ⟨i, dk, rfl, by omega, Nat.le_refl _, Nat.le_refl _, hsk, S1, ⟨rfl⟩⟩
      case round =>
        clear S1
        obtain ⟨j, dj, rfl, haj, hji, hg2, hsj, SJ, HI⟩ := hrel
        have OUT : Aside0 ((j ≤ a ∨ (ltOf cf) dj[j]! dj[j - 1]! = false) → insOuter (ltOf cf) a b (i + 1) dj = insOuter (ltOf cf) a b (a + 1) d) := ⟨fun hs => by
          rw [← HO.out, insOuter_go _ _ _ _ _ hlt, ← HI.out, ins_stop _ _ _ _ hs]⟩
        by_cases hja : a < j
        · obtain ⟨q, hq⟩ : ∃ q, q = j - 1 := ⟨_, rfl⟩
          have e1 : decide ((j : Int) > (a : Int)) = true := decide_eq_true (by omega)
          have e2 : IntKind.i64.wrap ((j : Int) - 1) = (q : Int) := by rw [IntKind.wrap_i64]; omega
          have z2 : (j : Int) - 1 = (q : Int) := by omega
          have e4 : IntKind.i64.wrap (q : Int) = (q : Int) := by rw [IntKind.wrap_i64]; omega
          have b1 : (j : Int) < (n : Int) := by omega
          have b2 : (q : Int) < (n : Int) := by omega
          have HV := Aside0.mk (show ltOf cf dj[j]! dj[j - 1]! = decide (cf dj[j]! dj[q]! < 0) by rw [hq]; rfl)
          have l1 := SJ.out.cl j (by omega)
          have l2 := SJ.out.cl q (by omega)
          have hc := HC.out.at hsj SJ.out dj[j]! dj[q]!
          have SSW := Aside0.mk (show ∀ W2, SB enc w0 g rest dj W2 → SB enc w0 g rest (swp dj j q) ((W2.setCell ⟨g, j, none⟩ (enc dj[q]!)).setCell ⟨g, q, none⟩ (enc dj[j]!)).drew from fun W2 h => (h.swap j q (by omega) (by omega)).drew)
          have SC2 := Aside0.mk (show ∀ W2, SB enc w0 g rest dj W2 → ∃ u, (W2.setCell ⟨g, j, none⟩ (enc dj[q]!)).cell? ⟨g, q, none⟩ = some u from fun W2 h => h.c2 j q (by omega) (by omega) _)
          have SCL := Aside0.mk (show ∀ W2, SB enc w0 g rest dj W2 → W2.cell? ⟨g, j, none⟩ = some (enc dj[j]!) ∧ W2.cell? ⟨g, q, none⟩ = some (enc dj[q]!) from fun W2 h => ⟨h.cell j (by omega), h.cell q (by omega)⟩)
          have ox := h1 dj[j]!
          have oy := h1 dj[q]!
          have HQ := Aside0.mk hq
          clear hq
          generalize cf dj[j]! dj[q]! = z at hc HV
          generalize enc dj[j]! = x at *
          generalize enc dj[q]! = y at *
          by_cases hz : z < 0
          · have e3 : decide (z < 0) = true := decide_eq_true hz
            have HV := Aside0.mk (HV.out.trans e3)
            go_wp2_with fail
            refine wp_region_quiet_below (by kernel_rfl) (by kernel_rfl) ?_
            repeat (quiet_step (refine hc _ _))
            refine wpQuiet_nil ?_
            intro _ hw'
            obtain ⟨⟨nq, osq⟩, hw''⟩ := hw'
            subst hw''
            have S2 := Aside0.mk (SJ.out.below (below_regrown wr nq osq))
            clear l1 l2 hc SJ
            generalize grow (redrawn wr nq) osq = W2 at S2 ⊢
            go_wp2_with fail
            obtain ⟨c1, c2⟩ := SCL.out W2 S2.out
            obtain ⟨u, c3⟩ := SC2.out W2 S2.out
            have f1 := S2.out.frozen j
            have f2 := S2.out.frozen q
            have kx := one_cells ox
            have ky := one_cells oy
            simp only [Value.cells] at kx ky
            have tx := one_store ox
            have ty := one_store oy
            have S3 := Aside0.mk (SSW.out W2 S2.out)
            clear S2 ox oy SCL SC2 SSW
            go_big_region
            clear c1 c2 c3 f1 f2 kx ky tx ty
            generalize ((W2.setCell ⟨g, j, none⟩ y).setCell ⟨g, q, none⟩ x).drew = W3 at S3 ⊢
            go_wp2_with fail
            go_roundg (j - 1)
            case measure => omega
            case rel => exact ⟨j - 1, swp dj j q, by first | rfl | go_num | (congr 1; omega), by omega, by omega, Nat.le_refl _, by rw [size_swp]; exact hsj, S3, ⟨by rw [← HI.out, ins_go (ltOf cf) a j dj hja HV.out, HQ.out]⟩⟩
          · have e3 : decide (z < 0) = false := decide_eq_false hz
            have HV := Aside0.mk (HV.out.trans e3)
            clear SSW SC2 SCL
            go_wp2_with fail
            refine wp_region_quiet_below (by kernel_rfl) (by kernel_rfl) ?_
            repeat (quiet_step (refine hc _ _))
            refine wpQuiet_nil ?_
            intro _ hw'
            obtain ⟨⟨nq, osq⟩, hw''⟩ := hw'
            subst hw''
            have S2 := Aside0.mk (SJ.out.below (below_regrown wr nq osq))
            clear l1 l2 hc SJ
            generalize grow (redrawn wr nq) osq = W2 at S2 ⊢
            go_wp2_with fail
            go_roundg (b - (i + 1))
            case measure => omega
            case rel => exact ⟨i + 1, dj, by go_num, by omega, by omega, by omega, hsj, S2, ⟨OUT.out (Or.inr HV.out)⟩⟩
        · have e1 : decide ((j : Int) > (a : Int)) = false := decide_eq_false (by omega)
          have S2 := Aside0.mk SJ.out.drew
          go_wp2_with fail
          go_big_region
          clear SJ
          generalize wr.drew = W2 at S2 ⊢
          go_wp2_with fail
          go_roundg (b - (i + 1))
          case measure => omega
          case rel => exact ⟨i + 1, dj, by go_num, by omega, by omega, by omega, hsj, S2, ⟨OUT.out (Or.inl (by omega))⟩⟩
    · have hltz : decide ((i : Int) < (b : Int)) = false := decide_eq_false (by omega)
      go_wp2_with fail
      go_end0
      refine ⟨rfl, ?_⟩
      unfold insertionSort
      rw [← HO.out, insOuter_stop _ _ _ _ _ hlt]
      exact S1.out

set_option maxHeartbeats 8000000 in
set_option maxRecDepth 100000 in
theorem rotate_walk [Inhabited α] (h1 : ∀ x, (enc x).oneCell' = true) (cap a m b n : Nat) (cv : Value) (d : Array α) (W : World) (hn : d.size = n) (S : SB enc w0 g rest d W) (ham : a < m) (hmb : m < b) (hb : b ≤ n) (hsz : n < 4611686018427387904) :
    Calls Tryd.prog 64 #[.slice (some ⟨g, 0, none⟩) n cap, .int .i64 a, .int .i64 m, .int .i64 b, cv] W fun e w' => e = .returned (.tuple #[]) ∧ SB enc w0 g rest (rot d a m b) w' := by
  have S0 := Aside0.mk S
  clear S
  go_enter Tryd.func64, Tryd.ntmps64
  go_wp2_with fail
  go_loopg [10, 11] (b - a) (fun k v10 v11 wr => ∃ (i j : Nat) (dk : Array α), v10 = .int .i64 i ∧ v11 = .int .i64 j ∧ 1 ≤ i ∧ 1 ≤ j ∧ i + j ≤ k ∧ i ≤ m ∧ m + j ≤ n ∧ dk.size = n ∧ Aside0 (SB enc w0 g rest dk wr) ∧ Aside0 (rot dk (m - i) m (m + j) = rot d a m b))
  case atStart => exact ⟨m - a, b - m, d, by go_num, by go_num, by omega, by omega, by omega, by omega, by omega, hn, S0, ⟨by rw [show m - (m - a) = a by omega, show m + (b - m) = b by omega]⟩⟩
  case round =>
    clear S0
    obtain ⟨i, j, dk, rfl, rfl, hi, hj, hk, him, hjn, hsk, S1, HR⟩ := hrel
    have e4 : IntKind.i64.wrap ((m : Int) - (i : Int)) = ((m - i : Nat) : Int) := by rw [IntKind.wrap_i64]; omega
    have z4 : (m : Int) - (i : Int) = ((m - i : Nat) : Int) := by omega
    by_cases hij : i = j
    · subst hij
      have e1 : ((i : Int) != (i : Int)) = false := by simp
      have hs := Aside0.mk (swapRange_walk (w0 := w0) (rest := rest) h1 cap (m - i) m i cv dk wr S1.out (by omega) (by omega) (by omega))
      rw [rot_step_eq dk m i him (by omega), HR.out, hsk] at hs
      clear HR S1
      go_wp2_with fail
      refine hs.out.mono ?_
      rintro e w' ⟨rfl, S2⟩
      replace S2 := Aside0.mk S2
      go_wp2_with fail
      go_end0
      exact ⟨rfl, S2.out⟩
    · have e1 : ((i : Int) != (j : Int)) = true := by simpa using (fun h => hij (by omega))
      by_cases hgt : j < i
      · have e2 : decide ((i : Int) > (j : Int)) = true := decide_eq_true (by omega)
        have hs := Aside0.mk (swapRange_walk (w0 := w0) (rest := rest) h1 cap (m - i) m j cv dk wr S1.out (by omega) (by omega) (by omega))
        rw [hsk] at hs
        have HR2 := Aside0.mk (rot_step_gt dk m i j him (by omega) hgt)
        clear S1
        go_wp2_with fail
        refine hs.out.mono ?_
        rintro e w' ⟨rfl, S2⟩
        replace S2 := Aside0.mk S2
        go_wp2_with fail
        go_roundg (i - j + j)
        case measure => omega
        case rel => exact ⟨i - j, j, swapR dk (m - i) m j, by go_num, rfl, by omega, hj, by omega, by omega, hjn, by simpa using hsk, S2, ⟨by rw [HR2.out]; exact HR.out⟩⟩
      · have e2 : decide ((i : Int) > (j : Int)) = false := decide_eq_false (by omega)
        have e5 : IntKind.i64.wrap ((m : Int) + (j : Int)) = ((m + j : Nat) : Int) := by rw [IntKind.wrap_i64]; omega
        have e6 : IntKind.i64.wrap (((m + j : Nat) : Int) - (i : Int)) = ((m + j - i : Nat) : Int) := by rw [IntKind.wrap_i64]; omega
        have hs := Aside0.mk (swapRange_walk (w0 := w0) (rest := rest) h1 cap (m - i) (m + j - i) i cv dk wr S1.out (by omega) (by omega) (by omega))
        rw [hsk] at hs
        have HR2 := Aside0.mk (rot_step_lt dk m i j him (by omega) (by omega))
        obtain ⟨q, hq⟩ : ∃ q, q = m + j := ⟨_, rfl⟩
        obtain ⟨p, hp⟩ : ∃ p, p = q - i := ⟨_, rfl⟩
        rw [← hq, ← hp] at e6 hs
        rw [← hq] at e5
        have z5 : (m : Int) + (j : Int) = (q : Int) := by omega
        have z6 : (q : Int) - (i : Int) = (p : Int) := by omega
        have HP := Aside0.mk (show p = m + j - i by omega)
        have HQ := Aside0.mk hq
        clear S1 hp hq
        go_wp2_with fail
        refine hs.out.mono ?_
        rintro e w' ⟨rfl, S2⟩
        replace S2 := Aside0.mk S2
        go_wp2_with fail
        go_roundg (i + (j - i))
        case measure => omega
        case rel => exact ⟨i, j - i, swapR dk (m - i) p i, rfl, by go_num, hi, by omega, by omega, him, by omega, by simpa using hsk, S2, ⟨by rw [HP.out, HR2.out]; exact HR.out⟩⟩
end Go.Proofs.YtdomggegacgmnaaDoor.PA
