/- The sort's world: a row of one-cell values (type 22) that is turned while all else stays; swapRange and insertionSort of slices.SortStableFunc at it, 'cmp' a closure that lays and draws what it wants. -/
import Derived.Test.YtdomggegacgmnaaDoorGCompare
import Derived.Test.YtdomggegacgmnaaDoorStable
import Derived.Lib.QuietBelow
import Derived.BigRegion
import Derived.BigQuiet
import Derived.Deep.QuietTactic
import Derived.Test.YtdomggegacgmnaaDoorGCore
namespace Go.Proofs.YtdomggegacgmnaaDoor.PA
open Go.Sort Go.RowKit Go.Proofs.YtdomggegacgmnaaDoorW.PrintWords Go.Proofs.YtdomggegacgmnaaDoorW.PrintLast Go.Proofs.YtdomggegacgmnaaDoorW.PrintMore
variable {α : Type} {enc : α → Value} {w0 W : World} {g : Nat} {rest : List Value} {d : Array α}

/-- a world of the sort: the block g holds the row (and what is behind it), all else is as it was -/
structure SB (enc : α → Value) (w0 : World) (g : Nat) (rest : List Value) (d : Array α) (W : World) : Prop where
  kept : w0.grownBy W (some g)
  row : W.heap[g]? = some (.cells (d.map enc ++ rest.toArray) 22 (0, 0))
theorem SB.below (h : SB enc w0 g rest d W) {W' : World} (hb : Below W.heap.size W W') : SB enc w0 g rest d W' :=
  ⟨⟨hb.os.trans h.kept.os, hb.tape.trans h.kept.tape, hb.output.trans h.kept.output, Nat.le_trans h.kept.size hb.size, fun k hk hne => (hb.block k (Nat.lt_of_lt_of_le hk h.kept.size)).trans (h.kept.block k hk hne)⟩, (hb.block g (blk_lt h.row)).trans h.row⟩
theorem SB.drew (h : SB enc w0 g rest d W) : SB enc w0 g rest d W.drew := h.below ((Below.refl _ _).drew)
theorem SB.drewN (h : SB enc w0 g rest d W) (n : Nat) : SB enc w0 g rest d (W.drewN n) := h.below (pw_below_drewN (Below.refl _ _) n)
theorem SB.frozen (h : SB enc w0 g rest d W) (i : Nat) : W.frozen? ⟨g, i, none⟩ = false := blk_frozen h.row i
theorem SB.cell [Inhabited α] (h : SB enc w0 g rest d W) (i : Nat) (hi : i < d.size) : W.cell? ⟨g, i, none⟩ = some (enc d[i]!) := by
  rw [blk_cell h.row, Array.getElem?_append_left (by simpa using hi)]
  simp [hi]
theorem SB.swap [Inhabited α] (h : SB enc w0 g rest d W) (i j : Nat) (hi : i < d.size) (hj : j < d.size) :
    SB enc w0 g rest (swp d i j) ((W.setCell ⟨g, i, none⟩ (enc d[j]!)).setCell ⟨g, j, none⟩ (enc d[i]!)) := by
  have h1 := blk_set h.row i (enc d[j]!)
  have h2 := blk_set h1 j (enc d[i]!)
  have sz : ∀ (w : World) (a : Addr) (v : Value), (w.setCell a v).heap.size = w.heap.size := fun w a v => by simp
  refine ⟨⟨?_, ?_, ?_, ?_, fun k hk hne => ?_⟩, ?_⟩
  · exact (show ((W.setCell ⟨g, i, none⟩ (enc d[j]!)).setCell ⟨g, j, none⟩ (enc d[i]!)).os = W.os by simp [World.setCell]).trans h.kept.os
  · exact (show ((W.setCell ⟨g, i, none⟩ (enc d[j]!)).setCell ⟨g, j, none⟩ (enc d[i]!)).tape = W.tape by simp [World.setCell]).trans h.kept.tape
  · exact (show ((W.setCell ⟨g, i, none⟩ (enc d[j]!)).setCell ⟨g, j, none⟩ (enc d[i]!)).output = W.output by simp [World.setCell]).trans h.kept.output
  · rw [sz, sz]; exact h.kept.size
  · have : k ≠ g := fun e => hne (by rw [e])
    rw [Below.heap_setCell _ ⟨g, j, none⟩ _ k this, Below.heap_setCell _ ⟨g, i, none⟩ _ k this]
    exact h.kept.block k hk hne
  · rw [h2]
    congr 2
    unfold swp
    rw [Array.setIfInBounds_append_left (by simpa using hi), Array.setIfInBounds_append_left (by simpa using hj), Array.map_setIfInBounds, Array.map_setIfInBounds]
/-- behind the exchange's first store the second place still holds something -/
theorem SB.c2 [Inhabited α] (h : SB enc w0 g rest d W) (i j : Nat) (hi : i < d.size) (hj : j < d.size) (v : Value) : ∃ u, (W.setCell ⟨g, i, none⟩ v).cell? ⟨g, j, none⟩ = some u := by
  by_cases e : i = j
  · subst e; exact ⟨v, World.cell?_setCell_same _ _ _ (h.cell i hi)⟩
  · exact ⟨_, (World.cell?_setCell_other _ _ _ _ (by intro e'; simp only [Addr.mk.injEq] at e'; omega)).trans (h.cell j hj)⟩
/-- what 'cmp' is asked: in every world of the sort it hands back cf x y; what was there stays -/
def CmpB (P : Program) (c : Nat) (cb : Array Value) (enc : α → Value) (cf : α → α → Int) (w0 : World) (g : Nat) (rest : List Value) (n : Nat) : Prop :=
  ∀ (d : Array α) (W : World), d.size = n → SB enc w0 g rest d W → ∀ x y : α, Calls P c (#[enc x, enc y] ++ cb) W fun e w' => e = .returned (.int .i64 (cf x y)) ∧ Below W.heap.size W w'
theorem CmpB.at {P : Program} {c : Nat} {cb : Array Value} {cf : α → α → Int} {n : Nat} (h : CmpB P c cb enc cf w0 g rest n) (hs : d.size = n) (S : SB enc w0 g rest d W) (x y : α) (k : Nat) (os : Array Obj) :
    Calls P c (#[enc x, enc y] ++ cb) (grow (redrawn W k) os) fun e w'' => e = .returned (.int .i64 (cf x y)) ∧ ∃ p : Regrown, w'' = grow (redrawn W p.d) p.os :=
  Calls.regrown_of (h d _ hs (S.below (below_regrown W k os)) x y)
theorem SB.cl [Inhabited α] (h : SB enc w0 g rest d W) (i : Nat) (hi : i < d.size) (n : Nat) (os : Array Obj) : (grow (redrawn W n) os).cell? ⟨g, i, none⟩ = some (enc d[i]!) := cell_regrown (h.cell i hi) n os
def ltOf (cf : α → α → Int) (x y : α) : Bool := decide (cf x y < 0)
theorem one_cells {v : Value} (h : v.oneCell' = true) : v.cells = #[v] := by
  cases v <;> first | rfl | simp [Value.oneCell'] at h

theorem one_store {v : Value} (h : v.oneCell' = true) (a : Addr) (m : Mode) (W : World) : (store a v m).run Tryd.prog W = stored Tryd.prog W a v m := run_store Tryd.prog W a v m h

set_option maxHeartbeats 8000000 in
set_option maxRecDepth 100000 in
theorem swapRange_walk [Inhabited α] (h1 : ∀ x, (enc x).oneCell' = true) (cap a b n : Nat) (cv : Value) (d : Array α) (W : World) (S : SB enc w0 g rest d W) (hab : a + n ≤ d.size) (hb : b + n ≤ d.size) (hsz : d.size < 4611686018427387904) :
    Calls Tryd.prog 67 #[.slice (some ⟨g, 0, none⟩) d.size cap, .int .i64 a, .int .i64 b, .int .i64 n, cv] W fun e w' => e = .returned (.tuple #[]) ∧ SB enc w0 g rest (swapR d a b n) w' := by
  have S0 := Aside0.mk S
  clear S
  go_enter Tryd.func67, Tryd.ntmps67
  go_wp2_with fail
  go_loopg [10] n (fun m v wr => ∃ (i : Nat), v = .int .i64 i ∧ i ≤ n ∧ n - i ≤ m ∧ Aside0 (SB enc w0 g rest (swapR d a b i) wr))
  case atStart => exact ⟨0, rfl, by omega, by omega, S0⟩
  case round =>
    clear S0
    obtain ⟨i, rfl, hi, hm, S1⟩ := hrel
    by_cases h : i < n
    · have e1 : decide ((i : Int) < (n : Int)) = true := decide_eq_true (by omega)
      obtain ⟨dk, hdk⟩ : ∃ dk, dk = swapR d a b i := ⟨_, rfl⟩
      have hsk : dk.size = d.size := by rw [hdk, size_swapR]
      have HD := Aside0.mk (show swapR d a b (i + 1) = swp dk (a + i) (b + i) by rw [swapR, hdk])
      rw [← hdk] at S1
      clear hdk
      obtain ⟨p, hp⟩ : ∃ p, p = a + i := ⟨_, rfl⟩
      obtain ⟨q, hq⟩ : ∃ q, q = b + i := ⟨_, rfl⟩
      have ep : IntKind.i64.wrap ((a : Int) + (i : Int)) = (p : Int) := by rw [IntKind.wrap_i64]; omega
      have eq : IntKind.i64.wrap ((b : Int) + (i : Int)) = (q : Int) := by rw [IntKind.wrap_i64]; omega
      have zp : (a : Int) + (i : Int) = (p : Int) := by omega
      have zq : (b : Int) + (i : Int) = (q : Int) := by omega
      have bp : (p : Int) < (d.size : Int) := by omega
      have bq : (q : Int) < (d.size : Int) := by omega
      have c1 := S1.out.cell p (by omega)
      have c2 := S1.out.cell q (by omega)
      have f1 := S1.out.frozen p
      have f2 := S1.out.frozen q
      have SW := Aside0.mk (S1.out.swap p q (by omega) (by omega)).drew
      obtain ⟨u, c3⟩ := S1.out.c2 p q (by omega) (by omega) (enc dk[q]!)
      rw [← hp, ← hq] at HD
      have ox := h1 dk[p]!
      have oy := h1 dk[q]!
      generalize enc dk[p]! = x at *
      generalize enc dk[q]! = y at *
      have kx := one_cells ox
      have ky := one_cells oy
      simp only [Value.cells] at kx ky
      have tx := one_store ox
      have ty := one_store oy
      clear ox oy
      clear S1 hp hq
      go_wp2_with fail
      go_big_region
      clear c1 c2 c3 f1 f2 kx ky tx ty
      generalize ((wr.setCell ⟨g, p, none⟩ y).setCell ⟨g, q, none⟩ x).drew = W2 at SW ⊢
      go_wp2_with fail
      go_roundg (n - (i + 1))
      case measure => omega
      case rel => exact ⟨i + 1, by go_num, by omega, by omega, ⟨by rw [HD.out]; exact SW.out⟩⟩
    · have e1 : decide ((i : Int) < (n : Int)) = false := decide_eq_false (by omega)
      obtain rfl : i = n := by omega
      go_wp2_with fail
      go_end0
      exact ⟨rfl, S1.out⟩

theorem ins_go [Inhabited α] (lt : α → α → Bool) (a j : Nat) (d : Array α) (hj : a < j) (hl : lt d[j]! d[j - 1]! = true) : insInner lt a j d = insInner lt a (j - 1) (swp d j (j - 1)) := by
  obtain ⟨k, rfl⟩ : ∃ k, j = k + 1 := ⟨j - 1, by omega⟩
  rw [insInner]
  simp only [Nat.add_sub_cancel] at hl ⊢
  rw [if_pos (by simp [hl]; omega)]
theorem ins_stop [Inhabited α] (lt : α → α → Bool) (a j : Nat) (d : Array α) (h : j ≤ a ∨ lt d[j]! d[j - 1]! = false) : insInner lt a j d = d := by
  cases j with
  | zero => rw [insInner]
  | succ k =>
    rw [insInner, if_neg]
    rcases h with h | h
    · simp; omega
    · simp only [Nat.add_sub_cancel] at h; simp [h]

set_option maxHeartbeats 16000000 in
set_option maxRecDepth 100000 in
theorem insertion_walk [Inhabited α] (h1 : ∀ x, (enc x).oneCell' = true) (cf : α → α → Int) (cb : Array Value) (cap a b n : Nat) (d : Array α) (W : World) (HC : CmpB Tryd.prog 35 cb enc cf w0 g rest n) (hn : d.size = n) (S : SB enc w0 g rest d W) (hab : a ≤ b) (hb : b ≤ n) (hsz : n < 4611686018427387904) :
    Calls Tryd.prog 57 #[.slice (some ⟨g, 0, none⟩) n cap, .int .i64 a, .int .i64 b, .func (.func 35) #[] cb] W fun e w' => e = .returned (.tuple #[]) ∧ SB enc w0 g rest (insertionSort (ltOf cf) d a b) w' := by
  have S0 := Aside0.mk S
  have HC := Aside0.mk HC
  clear S
  go_enter Tryd.func57, Tryd.ntmps57
  go_wp2_with fail
  go_loopg [8] (b - a) (fun g1 vi wr => ∃ (i : Nat) (dk : Array α), vi = .int .i64 i ∧ a < i ∧ i ≤ b + 1 ∧ b + 1 - i ≤ g1 + 1 ∧ dk.size = n ∧ Aside0 (SB enc w0 g rest dk wr) ∧ Aside0 (insOuter (ltOf cf) a b i dk = insOuter (ltOf cf) a b (a + 1) d))
  case atStart => exact ⟨a + 1, d, by go_num, by omega, by omega, by omega, hn, S0, ⟨rfl⟩⟩
  case round =>
    clear S0
    obtain ⟨i, dk, rfl, hai, hib, hg1, hsk, S1, HO⟩ := hrel
    by_cases hlt : i < b
    · have hltz : decide ((i : Int) < (b : Int)) = true := decide_eq_true (by omega)
      go_wp2_with fail
      go_loopg [9] i (fun g2 vj wr2 => ∃ (j : Nat) (dj : Array α), vj = .int .i64 j ∧ a ≤ j ∧ j ≤ i ∧ j ≤ g2 ∧ dj.size = n ∧ Aside0 (SB enc w0 g rest dj wr2) ∧ Aside0 (insInner (ltOf cf) a j dj = insInner (ltOf cf) a i dk))
      case atStart => exact ⟨i, dk, rfl, by omega, Nat.le_refl _, Nat.le_refl _, hsk, S1, ⟨rfl⟩⟩
      case round =>
        clear S1
        obtain ⟨j, dj, rfl, haj, hji, hg2, hsj, SJ, HI⟩ := hrel
        have OUT : Aside0 ((j ≤ a ∨ (ltOf cf) dj[j]! dj[j - 1]! = false) → insOuter (ltOf cf) a b (i + 1) dj = insOuter (ltOf cf) a b (a + 1) d) := ⟨fun hs => by
          rw [← HO.out, insOuter_go _ _ _ _ _ hlt, ← HI.out, ins_stop _ _ _ _ hs]⟩
        by_cases hja : a < j
        · obtain ⟨q, hq⟩ : ∃ q, q = j - 1 := ⟨_, rfl⟩
          have e1 : decide ((j : Int) > (a : Int)) = true := decide_eq_true (by omega)
          have e2 : IntKind.i64.wrap ((j : Int) - 1) = (q : Int) := by rw [IntKind.wrap_i64]; omega
          have z2 : (j : Int) - 1 = (q : Int) := by omega
          have e4 : IntKind.i64.wrap (q : Int) = (q : Int) := by rw [IntKind.wrap_i64]; omega
          have b1 : (j : Int) < (n : Int) := by omega
          have b2 : (q : Int) < (n : Int) := by omega
          have HV := Aside0.mk (show ltOf cf dj[j]! dj[j - 1]! = decide (cf dj[j]! dj[q]! < 0) by rw [hq]; rfl)
          have l1 := SJ.out.cl j (by omega)
          have l2 := SJ.out.cl q (by omega)
          have hc := HC.out.at hsj SJ.out dj[j]! dj[q]!
          have SSW := Aside0.mk (show ∀ W2, SB enc w0 g rest dj W2 → SB enc w0 g rest (swp dj j q) ((W2.setCell ⟨g, j, none⟩ (enc dj[q]!)).setCell ⟨g, q, none⟩ (enc dj[j]!)).drew from fun W2 h => (h.swap j q (by omega) (by omega)).drew)
          have SC2 := Aside0.mk (show ∀ W2, SB enc w0 g rest dj W2 → ∃ u, (W2.setCell ⟨g, j, none⟩ (enc dj[q]!)).cell? ⟨g, q, none⟩ = some u from fun W2 h => h.c2 j q (by omega) (by omega) _)
          have SCL := Aside0.mk (show ∀ W2, SB enc w0 g rest dj W2 → W2.cell? ⟨g, j, none⟩ = some (enc dj[j]!) ∧ W2.cell? ⟨g, q, none⟩ = some (enc dj[q]!) from fun W2 h => ⟨h.cell j (by omega), h.cell q (by omega)⟩)
          have ox := h1 dj[j]!
          have oy := h1 dj[q]!
          have HQ := Aside0.mk hq
          clear hq
          generalize cf dj[j]! dj[q]! = z at hc HV
          generalize enc dj[j]! = x at *
          generalize enc dj[q]! = y at *
          by_cases hz : z < 0
          · have e3 : decide (z < 0) = true := decide_eq_true hz
            have HV := Aside0.mk (HV.out.trans e3)
            go_wp2_with fail
            refine wp_region_quiet_below (by kernel_rfl) (by kernel_rfl) ?_
            repeat (quiet_step (refine hc _ _))
            refine wpQuiet_nil ?_
            intro _ hw'
            obtain ⟨⟨nq, osq⟩, hw''⟩ := hw'
            subst hw''
            have S2 := Aside0.mk (SJ.out.below (below_regrown wr nq osq))
            clear l1 l2 hc SJ
            generalize grow (redrawn wr nq) osq = W2 at S2 ⊢
            go_wp2_with fail
            obtain ⟨c1, c2⟩ := SCL.out W2 S2.out
            obtain ⟨u, c3⟩ := SC2.out W2 S2.out
            have f1 := S2.out.frozen j
            have f2 := S2.out.frozen q
            have kx := one_cells ox
            have ky := one_cells oy
            simp only [Value.cells] at kx ky
            have tx := one_store ox
            have ty := one_store oy
            have S3 := Aside0.mk (SSW.out W2 S2.out)
            clear S2 ox oy SCL SC2 SSW
            go_big_region
            clear c1 c2 c3 f1 f2 kx ky tx ty
            generalize ((W2.setCell ⟨g, j, none⟩ y).setCell ⟨g, q, none⟩ x).drew = W3 at S3 ⊢
            go_wp2_with fail
            go_roundg (j - 1)
            case measure => omega
            case rel => exact ⟨j - 1, swp dj j q, by first | rfl | go_num | (congr 1; omega), by omega, by omega, Nat.le_refl _, by rw [size_swp]; exact hsj, S3, ⟨by rw [← HI.out, ins_go (ltOf cf) a j dj hja HV.out, HQ.out]⟩⟩
          · have e3 : decide (z < 0) = false := decide_eq_false hz
            have HV := Aside0.mk (HV.out.trans e3)
            clear SSW SC2 SCL
            go_wp2_with fail
            refine wp_region_quiet_below (by kernel_rfl) (by kernel_rfl) ?_
            repeat (quiet_step (refine hc _ _))
            refine wpQuiet_nil ?_
            intro _ hw'
            obtain ⟨⟨nq, osq⟩, hw''⟩ := hw'
            subst hw''
            have S2 := Aside0.mk (SJ.out.below (below_regrown wr nq osq))
            clear l1 l2 hc SJ
            generalize grow (redrawn wr nq) osq = W2 at S2 ⊢
            go_wp2_with fail
            go_roundg (b - (i + 1))
            case measure => omega
            case rel => exact ⟨i + 1, dj, by go_num, by omega, by omega, by omega, hsj, S2, ⟨OUT.out (Or.inr HV.out)⟩⟩
        · have e1 : decide ((j : Int) > (a : Int)) = false := decide_eq_false (by omega)
          have S2 := Aside0.mk SJ.out.drew
          go_wp2_with fail
          go_big_region
          clear SJ
          generalize wr.drew = W2 at S2 ⊢
          go_wp2_with fail
          go_roundg (b - (i + 1))
          case measure => omega
          case rel => exact ⟨i + 1, dj, by go_num, by omega, by omega, by omega, hsj, S2, ⟨OUT.out (Or.inl (by omega))⟩⟩
    · have hltz : decide ((i : Int) < (b : Int)) = false := decide_eq_false (by omega)
      go_wp2_with fail
      go_end0
      refine ⟨rfl, ?_⟩
      unfold insertionSort
      rw [← HO.out, insOuter_stop _ _ _ _ _ hlt]
      exact S1.out

set_option maxHeartbeats 8000000 in
set_option maxRecDepth 100000 in
theorem rotate_walk [Inhabited α] (h1 : ∀ x, (enc x).oneCell' = true) (cap a m b n : Nat) (cv : Value) (d : Array α) (W : World) (hn : d.size = n) (S : SB enc w0 g rest d W) (ham : a < m) (hmb : m < b) (hb : b ≤ n) (hsz : n < 4611686018427387904) :
    Calls Tryd.prog 64 #[.slice (some ⟨g, 0, none⟩) n cap, .int .i64 a, .int .i64 m, .int .i64 b, cv] W fun e w' => e = .returned (.tuple #[]) ∧ SB enc w0 g rest (rot d a m b) w' := by
  have S0 := Aside0.mk S
  clear S
  go_enter Tryd.func64, Tryd.ntmps64
  go_wp2_with fail
  go_loopg [10, 11] (b - a) (fun k v10 v11 wr => ∃ (i j : Nat) (dk : Array α), v10 = .int .i64 i ∧ v11 = .int .i64 j ∧ 1 ≤ i ∧ 1 ≤ j ∧ i + j ≤ k ∧ i ≤ m ∧ m + j ≤ n ∧ dk.size = n ∧ Aside0 (SB enc w0 g rest dk wr) ∧ Aside0 (rot dk (m - i) m (m + j) = rot d a m b))
  case atStart => exact ⟨m - a, b - m, d, by go_num, by go_num, by omega, by omega, by omega, by omega, by omega, hn, S0, ⟨by rw [show m - (m - a) = a by omega, show m + (b - m) = b by omega]⟩⟩
  case round =>
    clear S0
    obtain ⟨i, j, dk, rfl, rfl, hi, hj, hk, him, hjn, hsk, S1, HR⟩ := hrel
    have e4 : IntKind.i64.wrap ((m : Int) - (i : Int)) = ((m - i : Nat) : Int) := by rw [IntKind.wrap_i64]; omega
    have z4 : (m : Int) - (i : Int) = ((m - i : Nat) : Int) := by omega
    by_cases hij : i = j
    · subst hij
      have e1 : ((i : Int) != (i : Int)) = false := by simp
      have hs := Aside0.mk (swapRange_walk (w0 := w0) (rest := rest) h1 cap (m - i) m i cv dk wr S1.out (by omega) (by omega) (by omega))
      rw [rot_step_eq dk m i him (by omega), HR.out, hsk] at hs
      clear HR S1
      go_wp2_with fail
      refine hs.out.mono ?_
      rintro e w' ⟨rfl, S2⟩
      replace S2 := Aside0.mk S2
      go_wp2_with fail
      go_end0
      exact ⟨rfl, S2.out⟩
    · have e1 : ((i : Int) != (j : Int)) = true := by simpa using (fun h => hij (by omega))
      by_cases hgt : j < i
      · have e2 : decide ((i : Int) > (j : Int)) = true := decide_eq_true (by omega)
        have hs := Aside0.mk (swapRange_walk (w0 := w0) (rest := rest) h1 cap (m - i) m j cv dk wr S1.out (by omega) (by omega) (by omega))
        rw [hsk] at hs
        have HR2 := Aside0.mk (rot_step_gt dk m i j him (by omega) hgt)
        clear S1
        go_wp2_with fail
        refine hs.out.mono ?_
        rintro e w' ⟨rfl, S2⟩
        replace S2 := Aside0.mk S2
        go_wp2_with fail
        go_roundg (i - j + j)
        case measure => omega
        case rel => exact ⟨i - j, j, swapR dk (m - i) m j, by go_num, rfl, by omega, hj, by omega, by omega, hjn, by simpa using hsk, S2, ⟨by rw [HR2.out]; exact HR.out⟩⟩
      · have e2 : decide ((i : Int) > (j : Int)) = false := decide_eq_false (by omega)
        have e5 : IntKind.i64.wrap ((m : Int) + (j : Int)) = ((m + j : Nat) : Int) := by rw [IntKind.wrap_i64]; omega
        have e6 : IntKind.i64.wrap (((m + j : Nat) : Int) - (i : Int)) = ((m + j - i : Nat) : Int) := by rw [IntKind.wrap_i64]; omega
        have hs := Aside0.mk (swapRange_walk (w0 := w0) (rest := rest) h1 cap (m - i) (m + j - i) i cv dk wr S1.out (by omega) (by omega) (by omega))
        rw [hsk] at hs
        have HR2 := Aside0.mk (rot_step_lt dk m i j him (by omega) (by omega))
        obtain ⟨q, hq⟩ : ∃ q, q = m + j := ⟨_, rfl⟩
        obtain ⟨p, hp⟩ : ∃ p, p = q - i := ⟨_, rfl⟩
        rw [← hq, ← hp] at e6 hs
        rw [← hq] at e5
        have z5 : (m : Int) + (j : Int) = (q : Int) := by omega
        have z6 : (q : Int) - (i : Int) = (p : Int) := by omega
        have HP := Aside0.mk (show p = m + j - i by omega)
        have HQ := Aside0.mk hq
        clear S1 hp hq
        go_wp2_with fail
        refine hs.out.mono ?_
        rintro e w' ⟨rfl, S2⟩
        replace S2 := Aside0.mk S2
        go_wp2_with fail
        go_roundg (i + (j - i))
        case measure => omega
        case rel => exact ⟨i, j - i, swapR dk (m - i) p i, rfl, by go_num, hi, by omega, by omega, him, by omega, by simpa using hsk, S2, ⟨by rw [HP.out, HR2.out]; exact HR.out⟩⟩
end Go.Proofs.YtdomggegacgmnaaDoor.PA

/- The sort's row of rows of bytes: opened into elements that are read, and shut again behind the sort. -/
namespace Go.Proofs.YtdomggegacgmnaaDoor.PA
open Go.Sort Go.RowKit Go.Proofs.YtdomggegacgmnaaDoorW.PrintWords Go.Proofs.YtdomggegacgmnaaDoorW.PrintLast Go.Proofs.YtdomggegacgmnaaDoorW.PrintMore

theorem infoB22 : (Tryd.prog.info? 22).map (fun i => (i.zero, i.size, i.bytes)) = some (some (.slice none 0 0), 1, 24) := by kernel_rfl
/-- a place of a row of rows of bytes -/
def rd_LL (xs : List (List Int)) (i : Int) : List Int := xs.getD i.toNat []
theorem at_LL {w : World} {A : Option Addr} {n : Nat} {xs : List (List Int)} (h : Kd.C (Kd.slice 5 (Kd.int .u8)) w A n xs) (i : Int) (h0 : 0 ≤ i) (h1 : i < n) :
    ∃ ad A0 c0, A = some ad ∧ w.cell? (ad.add i.toNat) = some (.slice A0 (rd_LL xs i).length c0) ∧ (rd_LL xs i).length ≤ c0 ∧ (Kd.int .u8).C w A0 (rd_LL xs i).length (rd_LL xs i) := by
  obtain ⟨ad, c, e, _, hK, hc0⟩ := Kd.C_get h ([] : List Int) i h0 h1
  have hc : ∀ j u, c[j]? = some u → w.cell? (ad.add (i.toNat * 1 + j)) = some u := hc0
  obtain ⟨A0, c0, rfl, l0, g0⟩ := hK
  exact ⟨ad, A0, c0, e, by have hq := hc 0 _ rfl; rwa [Nat.mul_one, Nat.add_zero] at hq, l0, g0⟩

/-- an element: a slice of bytes -/
structure El where
  A : Option Addr
  c : Nat
  l : List Int
/-- it is read in each world that a sort of the block g passes through -/
def Good (w0 : World) (g : Nat) (x : El) : Prop := x.l.length ≤ x.c ∧ small x.l = true ∧ ∀ W, w0.grownBy W (some g) → Kd.C (Kd.int .u8) W x.A x.l.length x.l
def GEl (w0 : World) (g : Nat) : Type := { x : El // Good w0 g x }
theorem C_nil (w : World) : Kd.C (Kd.int .u8) w none 0 [] := Kd.C_of_reads (d := (0 : Int)) (enc := Value.int .u8) (h1 := fun _ => rfl) ⟨rfl, by omega, fun h => by omega⟩
instance (w0 : World) (g : Nat) : Inhabited (GEl w0 g) := ⟨⟨⟨none, 0, []⟩, Nat.le_refl _, rfl, fun W _ => C_nil W⟩⟩
def encG {w0 : World} {g : Nat} (x : GEl w0 g) : Value := .slice x.1.A x.1.l.length x.1.c
/-- with its place -/
def encT {w0 : World} {g : Nat} (x : GEl w0 g × Nat) : Value := encG x.1
theorem encT_one {w0 : World} {g : Nat} (x : GEl w0 g × Nat) : (encT x).oneCell' = true := rfl
def cfT {w0 : World} {g : Nat} (r : Int) (x y : GEl w0 g × Nat) : Int := cmpL (thingsV x.1.1.l r) (thingsV y.1.1.l r)

theorem list_of {α : Type} (P : Nat → α → Prop) (n : Nat) (h : ∀ j, j < n → ∃ x, P j x) : ∃ L : List α, L.length = n ∧ ∀ j x, L[j]? = some x → P j x := by
  refine ⟨List.ofFn (fun j : Fin n => (h j.1 j.2).choose), by simp, fun j x hj => ?_⟩
  have hl : j < n := by
    have := (List.getElem?_eq_some_iff.1 hj).1
    simpa using this
  rw [List.getElem?_ofFn, dif_pos hl] at hj
  rw [← Option.some.inj hj]
  exact (h j hl).choose_spec

/-- what the sort is told of a row of rows of bytes -/
structure Opened (W : World) (base g n cap : Nat) (f : Nat → Nat) (rest : List Value) (L : List (GEl W g)) : Prop where
  hbase : base ≤ g
  hn : n ≤ cap
  hcap : cap ≤ maxLen
  hrest : n + rest.length = cap
  len : L.length = n
  sb : SB (encT (w0 := W) (g := g)) W g rest (Go.Proofs.YtdomggegacgmnaaDoor.tagged L) W
  el : ∀ (j : Nat) (x : GEl W g), L[j]? = some x → (Kd.int .u8).R 5 W base (fun k => k ≠ g ∧ f k = j) (encG x) x.1.l

theorem sz1 (f : Nat → Nat) : (Kd.tag f (Kd.slice 5 (Kd.int .u8))).sz = 1 := rfl
theorem open_S {W : World} {base : Nat} {ok : Nat → Prop} {n cap g : Nat} {xs : List (List Int)} (h : Kd.S (Kd.slice 5 (Kd.int .u8)) 22 W base ok (.slice (some ⟨g, 0, none⟩) n cap) xs) (hsm : xs.all small = true) :
    ∃ f rest L, Opened W base g n cap f rest L ∧ L.map (fun x => x.1.l) = xs := by
  obtain ⟨f, h0, inner, ho, hr⟩ := h
  rw [List.length_zipIdx, sz1] at ho
  rw [sz1] at hr
  have hf := ho.2
  rcases hf with ⟨e, _⟩ | ⟨g', cap', cur, ev, hb, hc, hn, hm, hsz, ht⟩
  · cases e
  · injection ev with e1 e2 e3
    injection e1 with e1
    injection e1 with e1 _ _
    subst e1 e2 e3
    have hlen : inner.length = xs.length := by rw [ho.1, Nat.mul_one]
    have hel : ∀ j, j < xs.length → ∃ x : GEl W g, inner[j]? = some (encG x) ∧ xs[j]? = some x.1.l ∧ (Kd.int .u8).R 5 W base (fun k => k ≠ g ∧ f k = j) (encG x) x.1.l := by
      intro j hj
      have hz : xs.zipIdx[j]? = some (xs[j], j) := Kd.zip_at (List.getElem?_eq_getElem hj)
      obtain ⟨v, hv, hR⟩ := hr.2 j _ hz
      have hR' : (Kd.int .u8).R 5 W base (fun k => k ≠ g ∧ f k = j) v xs[j] := Kd.R_mono hR (fun k hk => ⟨fun e => hk.1.2 (by rw [e]; rfl), hk.2⟩)
      obtain ⟨A, c, rfl, hle, hC⟩ := Kd.R_reads hR'
      refine ⟨⟨⟨A, c, xs[j]⟩, hle, ?_, fun W2 hg => ?_⟩, ?_, ?_, hR'⟩
      · exact List.all_eq_true.1 hsm _ (List.getElem_mem hj)
      · obtain ⟨A', c', e', _, hC'⟩ := Kd.R_reads (Kd.R_grown hR' hg (fun k hk e => hk.1 (Option.some.inj e)))
        injection e' with e1 e2 e3
        rw [e1]; exact hC'
      · have e : ((inner.drop (j * 1)).take 1) = [Value.slice A xs[j].length c] := hv
        rw [Nat.mul_one] at e
        have := congrArg (fun l => l[0]?) e
        rw [List.getElem?_take_of_lt (by omega), List.getElem?_drop] at this
        exact this
      · exact List.getElem?_eq_getElem hj
    obtain ⟨L, hL, hP⟩ := list_of _ _ hel
    have hLx : L.map (fun x => x.1.l) = xs := by
      apply List.ext_getElem?
      intro j
      rw [List.getElem?_map]
      by_cases hj : j < L.length
      · rw [List.getElem?_eq_getElem hj, Option.map_some]; exact (hP j _ (List.getElem?_eq_getElem hj)).2.1.symm
      · rw [List.getElem?_eq_none (by omega), List.getElem?_eq_none (by omega)]; rfl
    have hLi : L.map encG = inner := by
      apply List.ext_getElem?
      intro j
      rw [List.getElem?_map]
      by_cases hj : j < L.length
      · rw [List.getElem?_eq_getElem hj, Option.map_some]; exact (hP j _ (List.getElem?_eq_getElem hj)).1.symm
      · rw [List.getElem?_eq_none (by omega), List.getElem?_eq_none (by omega)]; rfl
    rw [Nat.mul_one] at hsz ht
    refine ⟨f, cur.toList.drop xs.length, L, ⟨hb, hn, hm, ?_, hL, ⟨grown_of_below (Below.refl _ _) _, ?_⟩, fun j x hj => (hP j x hj).2.2⟩, hLx⟩
    · have e : cur.toList.length = cap := by rw [Array.length_toList, hsz]
      rw [List.length_drop, e]; omega
    · rw [hc]
      congr 2
      apply Array.toList_inj.1
      rw [Array.toList_append, Array.toList_map]
      unfold Go.Proofs.YtdomggegacgmnaaDoor.tagged
      rw [List.toList_toArray, List.toList_toArray, show (encT : GEl W g × Nat → Value) = encG ∘ Prod.fst from rfl, ← List.map_map, List.zipIdx_map_fst, hLi, ← ht, List.take_append_drop]

theorem shut_S {W W2 : World} {base g n cap : Nat} {f : Nat → Nat} {rest : List Value} {L : List (GEl W g)} (H : Opened W base g n cap f rest L) {D : Array (GEl W g × Nat)} (hp : D.toList.Perm L.zipIdx) (S : SB encT W g rest D W2) :
    Kd.S (Kd.slice 5 (Kd.int .u8)) 22 W2 base (fun _ => True) (.slice (some ⟨g, 0, none⟩) n cap) (D.toList.map (fun x => x.1.1.l)) := by
  have hDn : D.size = n := by
    have := hp.length_eq
    rw [List.length_zipIdx, H.len, Array.length_toList] at this
    exact this
  have hnd : (D.toList.map (·.2)).Nodup := by
    have := (hp.map (·.2)).nodup_iff.2 (by rw [show L.zipIdx.map (·.2) = List.range' 0 L.length from List.zipIdx_map_snd 0 L]; exact List.nodup_range')
    exact this
  refine ⟨fun k => (D.toList.map (·.2)).idxOf (f k), fun _ _ => trivial, (D.map encT).toList, ⟨?_, .inr ⟨g, cap, _, by rw [List.length_zipIdx, List.length_map, Array.length_toList, hDn], H.hbase, S.row, ?_, H.hcap, ?_, ?_⟩⟩, ?_, ?_⟩
  · rw [sz1]; simp
  · simp only [List.length_zipIdx, List.length_map, Array.length_toList]; rw [hDn]; exact H.hn
  · rw [sz1]; simp only [Array.size_append, Array.size_map, List.size_toArray]; rw [hDn, H.hrest, Nat.mul_one]
  · rw [sz1]; simp [List.take_left']
  · rw [sz1]; simp
  · intro j p hj
    rw [List.getElem?_zipIdx, List.getElem?_map] at hj
    by_cases hjn : j < D.size
    · have hD : D.toList[j]? = some D[j] := by rw [Array.getElem?_toList]; exact Array.getElem?_eq_getElem hjn
      rw [hD] at hj
      simp only [Option.map_some, Nat.zero_add, Option.some.injEq] at hj
      subst hj
      have hmem : D[j] ∈ L.zipIdx := hp.mem_iff.1 (by simp)
      rw [List.mem_zipIdx_iff_getElem?] at hmem
      have hR := H.el _ _ hmem
      refine ⟨encG D[j].1, ?_, ?_⟩
      · rw [sz1, Nat.mul_one]
        have : (D.map encT).toList.drop j = encT D[j] :: (D.map encT).toList.drop (j + 1) := by
          rw [List.drop_eq_getElem_cons (by simpa using hjn)]; simp
        rw [this]; rfl
      · refine Kd.R_mono (Kd.R_grown hR S.kept (fun k hk e => hk.1 (Option.some.inj e))) (fun k hk => ⟨⟨trivial, fun e => hk.1 (Option.some.inj e)⟩, ?_⟩)
        have h2 : j < (D.toList.map (·.2)).length := by simpa using hjn
        have h3 : (D.toList.map (·.2))[j] = f k := by simp [hk.2]
        show (D.toList.map (·.2)).idxOf (f k) = j
        rw [← h3]
        exact hnd.idxOf_getElem j h2
    · rw [List.getElem?_eq_none (by simpa using hjn)] at hj
      simp at hj
end Go.Proofs.YtdomggegacgmnaaDoor.PA
