/- slices.SortStableFunc at a row of one-cell values: it leaves the row that the plain 'stable' leaves; what else there was stays. Conditions: the row's cells are of one value each; cmp hands back cf x y and turns nothing (CmpB). -/
import Derived.Test.YtdomggegacgmnaaDoorGSymC
namespace Go.Proofs.YtdomggegacgmnaaDoor.PA
open Go.Sort Go.RowKit Go.Proofs.YtdomggegacgmnaaDoorW.PrintWords Go.Proofs.YtdomggegacgmnaaDoorW.PrintLast Go.Proofs.YtdomggegacgmnaaDoorW.PrintMore
variable {α : Type} [Inhabited α] {enc : α → Value} {w0 W : World} {g : Nat} {rest : List Value} {d : Array α}

theorem size_insInner (lt : α → α → Bool) (a : Nat) : ∀ (j : Nat) (d : Array α), (insInner lt a j d).size = d.size
  | 0, d => by rw [insInner]
  | j + 1, d => by
    rw [insInner]
    split
    · rw [size_insInner lt a j, size_swp]
    · rfl
theorem size_insOuter (lt : α → α → Bool) (a b : Nat) : ∀ (n i : Nat) (d : Array α), b - i ≤ n → (insOuter lt a b i d).size = d.size
  | 0, i, d, h => by rw [insOuter_stop lt a b i d (by omega)]
  | n + 1, i, d, h => by
    by_cases c : i < b
    · rw [insOuter_go lt a b i d c, size_insOuter lt a b n (i + 1) _ (by omega), size_insInner]
    · rw [insOuter_stop lt a b i d c]
theorem size_insertion (lt : α → α → Bool) (d : Array α) (a b : Nat) : (insertionSort lt d a b).size = d.size := size_insOuter lt a b _ _ d (Nat.le_refl _)

set_option maxHeartbeats 16000000 in
set_option maxRecDepth 100000 in
theorem stable_walk (h1 : ∀ x, (enc x).oneCell' = true) (cf : α → α → Int) (cb : Array Value) (cap n : Nat) (d : Array α) (W : World) (HC : CmpB Tryd.prog 35 cb enc cf w0 g rest n) (hn : d.size = n) (S : SB enc w0 g rest d W) (hsz : n < 1152921504606846976) :
    Calls Tryd.prog 45 #[.slice (some ⟨g, 0, none⟩) n cap, .int .i64 n, .func (.func 35) #[] cb] W fun e w' => e = .returned (.tuple #[]) ∧ SB enc w0 g rest (stable (ltOf cf) d) w' := by
  have S0 := Aside0.mk S
  have HC := Aside0.mk HC
  clear S
  obtain ⟨R, hR⟩ : ∃ R, R = stable (ltOf cf) d := ⟨_, rfl⟩
  have HR := Aside0.mk (show R = stableLoop (ltOf cf) n (n + 1) (insBlocks (ltOf cf) n (n + 1) d 0) 20 by rw [hR, stable, hn])
  rw [← hR]
  clear hR
  go_enter Tryd.func45, Tryd.ntmps45
  go_wp2_with fail
  go_loopg [7, 8] n (fun k v7 v8 wr => ∃ (x y f : Nat) (dk : Array α), v7 = .int .i64 x ∧ v8 = .int .i64 y ∧ y = x + 20 ∧ x ≤ n ∧ n - x < f + 1 ∧ n - x ≤ k ∧ dk.size = n ∧ Aside0 (SB enc w0 g rest dk wr) ∧ Aside0 (insBlocks (ltOf cf) n (f + 1) dk x = insBlocks (ltOf cf) n (n + 1) d 0))
  case atStart => exact ⟨0, 20, n, d, rfl, rfl, rfl, by omega, by omega, by omega, hn, S0, ⟨rfl⟩⟩
  case round =>
    clear S0
    obtain ⟨x, y, f, dk, rfl, rfl, hy, hx, hf, hk, hsk, S1, HB⟩ := hrel
    have HY := Aside0.mk hy
    have hxy : x ≤ y := by omega
    have hy2 : y < 2305843009213693952 := by omega
    clear hy
    by_cases hyn : y ≤ n
    · have e1 : decide ((y : Int) ≤ (n : Int)) = true := decide_eq_true (by omega)
      obtain ⟨y2, hy3⟩ : ∃ y2, y2 = y + 20 := ⟨_, rfl⟩
      have e2 : IntKind.i64.wrap ((y : Int) + 20) = (y2 : Int) := by rw [IntKind.wrap_i64]; omega
      have z2 : (y : Int) + 20 = (y2 : Int) := by omega
      have HY3 := Aside0.mk hy3
      clear hy3
      have hc := Aside0.mk (insertion_walk h1 cf cb cap x y n dk wr HC.out hsk S1.out hxy hyn (by omega))
      have HB2 := Aside0.mk (show insBlocks (ltOf cf) n (f + 1) dk x = insBlocks (ltOf cf) n f (insertionSort (ltOf cf) dk x y) y by rw [insBlocks, if_pos (by have := HY.out; omega), HY.out])
      have hs2 := size_insertion (ltOf cf) dk x y
      generalize insertionSort (ltOf cf) dk x y = d2 at hc HB2 hs2
      obtain ⟨f, rfl⟩ : ∃ f', f = f' + 1 := ⟨f - 1, by have := HY.out; omega⟩
      clear S1
      go_wp2_with fail
      refine hc.out.mono ?_
      rintro e W2 ⟨rfl, S2⟩
      replace S2 := Aside0.mk S2
      clear hc
      go_wp2_with fail
      go_roundg (n - y)
      case measure => have := HY.out; omega
      case rel => exact ⟨y, y2, f, d2, rfl, rfl, HY3.out, hyn, by have := HY.out; omega, Nat.le_refl _, by rw [hs2]; exact hsk, S2, ⟨by rw [← HB2.out]; exact HB.out⟩⟩
    · have e1 : decide ((y : Int) ≤ (n : Int)) = false := decide_eq_false (by omega)
      have hc := Aside0.mk (insertion_walk h1 cf cb cap x n n dk wr HC.out hsk S1.out hx (Nat.le_refl _) (by omega))
      have HB2 := Aside0.mk (show insBlocks (ltOf cf) n (f + 1) dk x = insertionSort (ltOf cf) dk x n by rw [insBlocks, if_neg (by have := HY.out; omega)])
      have hs2 := size_insertion (ltOf cf) dk x n
      generalize insertionSort (ltOf cf) dk x n = d2 at hc HB2 hs2
      have HR2 := Aside0.mk (show R = stableLoop (ltOf cf) n (n + 1) d2 20 by rw [HR.out, ← HB.out, HB2.out])
      have hd2 : d2.size = n := by rw [hs2]; exact hsk
      clear S1 HB HB2 HR hs2 hsk hf hx hxy HY
      go_wp2_with fail
      refine hc.out.mono ?_
      rintro e W2 ⟨rfl, S2⟩
      replace S2 := Aside0.mk S2
      clear hc
      go_wp2_with fail
      go_loopg [6] n (fun k v6 wr => ∃ (z f : Nat) (dk : Array α), v6 = .int .i64 z ∧ 0 < z ∧ z < 2305843009213693952 ∧ n < f + z ∧ n - z ≤ k ∧ dk.size = n ∧ Aside0 (SB enc w0 g rest dk wr) ∧ Aside0 (R = stableLoop (ltOf cf) n f dk z))
      case atStart => exact ⟨20, n + 1, d2, rfl, by omega, by omega, by omega, by omega, hd2, S2, HR2⟩
      case round =>
        clear S2 HR2 hd2
        obtain ⟨z, f, dk, rfl, hz0, hz1, hf, hk3, hsk, S1, HR⟩ := hrel
        by_cases hzn : z < n
        · have e2 : decide ((z : Int) < (n : Int)) = true := decide_eq_true (by omega)
          obtain ⟨t, ht⟩ : ∃ t, t = 2 * z := ⟨_, rfl⟩
          have e3 : IntKind.i64.wrap (2 * (z : Int)) = (t : Int) := by rw [IntKind.wrap_i64]; omega
          have z3 : 2 * (z : Int) = (t : Int) := by omega
          have e4 : IntKind.i64.wrap ((z : Int) * 2) = (t : Int) := by rw [IntKind.wrap_i64]; omega
          have z4 : (z : Int) * 2 = (t : Int) := by omega
          obtain ⟨f, rfl⟩ : ∃ f', f = f' + 1 := ⟨f - 1, by omega⟩
          have HR2 := Aside0.mk (show R = stableLoop (ltOf cf) n f (mergePass (ltOf cf) n z (n + 1) dk 0) t by rw [HR.out, stableLoop, if_pos hzn, ht])
          have HT := Aside0.mk ht
          have ht2 : t < 2305843009213693952 := by omega
          have ht3 : z < t := by omega
          clear ht HR
          go_wp2_with fail
          go_loopg [7, 8] n (fun k v7 v8 wr => ∃ (x y f : Nat) (dj : Array α), v7 = .int .i64 x ∧ v8 = .int .i64 y ∧ y = x + t ∧ x ≤ n ∧ n - x < f + 1 ∧ n - x ≤ k ∧ dj.size = n ∧ Aside0 (SB enc w0 g rest dj wr) ∧ Aside0 (mergePass (ltOf cf) n z (f + 1) dj x = mergePass (ltOf cf) n z (n + 1) dk 0))
          case atStart => exact ⟨0, t, n, dk, rfl, rfl, by omega, by omega, by omega, by omega, hsk, S1, ⟨rfl⟩⟩
          case round =>
            clear S1
            obtain ⟨x, y, f2, dj, rfl, rfl, hy, hx, hf2, hk4, hsj, S1, HM⟩ := hrel
            have HY := Aside0.mk hy
            have hxy : x < y := by omega
            have hy2 : y < 3458764513820540928 := by omega
            obtain ⟨m, hm⟩ : ∃ m, m = x + z := ⟨_, rfl⟩
            have e5 : IntKind.i64.wrap ((x : Int) + (z : Int)) = (m : Int) := by rw [IntKind.wrap_i64]; omega
            have z5 : (x : Int) + (z : Int) = (m : Int) := by omega
            have hm2 : x < m ∧ m < y := by have := HT.out; omega
            have HMM := Aside0.mk hm
            clear hy hm
            by_cases hyn : y ≤ n
            · have e6 : decide ((y : Int) ≤ (n : Int)) = true := decide_eq_true (by omega)
              obtain ⟨y2, hy3⟩ : ∃ y2, y2 = y + t := ⟨_, rfl⟩
              have e7 : IntKind.i64.wrap ((y : Int) + (t : Int)) = (y2 : Int) := by rw [IntKind.wrap_i64]; omega
              have z7 : (y : Int) + (t : Int) = (y2 : Int) := by omega
              have HY3 := Aside0.mk hy3
              clear hy3
              have hc := Aside0.mk (sym_walk h1 cf cb cap n HC.out (by omega) (2 * z) x m y dj wr (by have := HY.out; have := HT.out; omega) hm2.1 hm2.2 hyn hsj S1.out)
              obtain ⟨f3, rfl⟩ : ∃ f', f2 = f' + 1 := ⟨f2 - 1, by have := HY.out; omega⟩
              have HM2 := Aside0.mk (show mergePass (ltOf cf) n z (f3 + 1 + 1) dj x = mergePass (ltOf cf) n z (f3 + 1) (symMerge (ltOf cf) (2 * z) dj x m y) y by
                rw [mergePass, if_pos (by have := HY.out; have := HT.out; omega), show x + 2 * z = y by have := HY.out; have := HT.out; omega, show x + z = m from HMM.out.symm])
              have hs2 := size_symMerge (ltOf cf) (2 * z) dj x m y
              generalize symMerge (ltOf cf) (2 * z) dj x m y = d3 at hc HM2 hs2
              clear S1
              go_wp2_with fail
              refine hc.out.mono ?_
              rintro e W3 ⟨rfl, S3⟩
              replace S3 := Aside0.mk S3
              clear hc
              go_wp2_with fail
              go_roundg (n - y)
              case measure => have := HY.out; omega
              case rel => exact ⟨y, y2, f3, d3, rfl, rfl, HY3.out, hyn, by have := HY.out; omega, Nat.le_refl _, by rw [hs2]; exact hsj, S3, ⟨by rw [← HM2.out]; exact HM.out⟩⟩
            · have e6 : decide ((y : Int) ≤ (n : Int)) = false := decide_eq_false (by omega)
              by_cases hmn : m < n
              · have e8 : decide ((m : Int) < (n : Int)) = true := decide_eq_true (by omega)
                have hc := Aside0.mk (sym_walk h1 cf cb cap n HC.out (by omega) (n - x) x m n dj wr (by omega) hm2.1 hmn (Nat.le_refl _) hsj S1.out)
                have HM2 := Aside0.mk (show mergePass (ltOf cf) n z (f2 + 1) dj x = symMerge (ltOf cf) (n - x) dj x m n by
                  rw [mergePass, if_neg (by have := HY.out; have := HT.out; omega), show x + z = m from HMM.out.symm, if_pos hmn])
                have hs2 := size_symMerge (ltOf cf) (n - x) dj x m n
                generalize symMerge (ltOf cf) (n - x) dj x m n = d3 at hc HM2 hs2
                clear S1
                go_wp2_with fail
                refine hc.out.mono ?_
                rintro e W3 ⟨rfl, S3⟩
                replace S3 := Aside0.mk S3
                clear hc
                go_wp2_with fail
                go_roundg (n - t)
                case measure => omega
                case rel => exact ⟨t, f, d3, rfl, by omega, ht2, by omega, Nat.le_refl _, by rw [hs2]; exact hsj, S3, ⟨by rw [HR2.out, ← HM.out, HM2.out]⟩⟩
              · have e8 : decide ((m : Int) < (n : Int)) = false := decide_eq_false (by omega)
                have HM2 := Aside0.mk (show mergePass (ltOf cf) n z (f2 + 1) dj x = dj by
                  rw [mergePass, if_neg (by have := HY.out; have := HT.out; omega), show x + z = m from HMM.out.symm, if_neg hmn])
                go_wp2_with fail
                go_roundg (n - t)
                case measure => omega
                case rel => exact ⟨t, f, dj, rfl, by omega, ht2, by omega, Nat.le_refl _, hsj, S1, ⟨by rw [HR2.out, ← HM.out, HM2.out]⟩⟩
        · have e2 : decide ((z : Int) < (n : Int)) = false := decide_eq_false (by omega)
          go_wp2_with fail
          go_end0
          refine ⟨rfl, ?_⟩
          have : R = dk := by
            rw [HR.out]
            cases f with
            | zero => rfl
            | succ f => rw [stableLoop, if_neg hzn]
          rw [this]
          exact S1.out

set_option maxHeartbeats 4000000 in
set_option maxRecDepth 100000 in
theorem sortStable_walk (h1 : ∀ x, (enc x).oneCell' = true) (cf : α → α → Int) (cb : Array Value) (cap n : Nat) (d : Array α) (W : World) (HC : CmpB Tryd.prog 35 cb enc cf w0 g rest n) (hn : d.size = n) (S : SB enc w0 g rest d W) (hsz : n < 1152921504606846976) :
    Calls Tryd.prog 34 #[.slice (some ⟨g, 0, none⟩) n cap, .func (.func 35) #[] cb] W fun e w' => e = .returned (.tuple #[]) ∧ SB enc w0 g rest (stable (ltOf cf) d) w' := by
  have hc := Aside0.mk (stable_walk h1 cf cb cap n d W HC hn S hsz)
  generalize stable (ltOf cf) d = d2 at hc ⊢
  clear S HC
  go_enter Tryd.func34, Tryd.ntmps34
  go_wp2_with fail
  refine hc.out.mono ?_
  rintro e W3 ⟨rfl, S3⟩
  replace S3 := Aside0.mk S3
  clear hc
  go_wp2_with fail
  go_end0
  exact ⟨rfl, S3.out⟩
end Go.Proofs.YtdomggegacgmnaaDoor.PA

/- order.Sort: the texts by a ruler, those that are alike to it in their order: a new row of new rows, what mergeSort leaves. Conditions: the ruler's texts are of fewer than 2^45 bytes, fewer than 2^40 of them. -/
namespace Go.Proofs.YtdomggegacgmnaaDoor.PA
open Go.Sort Go.RowKit Go.Proofs.YtdomggegacgmnaaDoorW.PrintWords Go.Proofs.YtdomggegacgmnaaDoorW.PrintLast Go.Proofs.YtdomggegacgmnaaDoorW.PrintMore

set_option maxHeartbeats 4000000 in
set_option maxRecDepth 100000 in
/-- the closure that Sort hands to the sort -/
theorem closure_walk (A0 : Option Addr) (c0 : Nat) (l0 : List Int) (A1 : Option Addr) (c1 : Nat) (l1 : List Int) (bx : Nat) (r z : Int) (w : World) (hr0 : Kd.C (Kd.int .u8) w A0 l0.length l0) (hc0 : l0.length ≤ c0) (hr1 : Kd.C (Kd.int .u8) w A1 l1.length l1) (hc1 : l1.length ≤ c1)
    (hb : w.cell? ⟨bx, 0, none⟩ = some (.int .i64 r)) (h : order_Compare.f l0 l1 r = some (z, 0)) :
    Calls Tryd.prog 35 #[.slice A0 l0.length c0, .slice A1 l1.length c1, .pointer (some ⟨bx, 0, none⟩)] w fun e w' => e = .returned (.int .i64 z) ∧ Below w.heap.size w w' := by
  have hc := Aside0.mk (order_Compare.calls A0 c0 l0 A1 c1 l1 r z 0 w hr0 hc0 hr1 hc1 h)
  clear hr0 hr1 h
  go_enter Tryd.func35, Tryd.ntmps35
  go_wp2_with fail
  refine hc.out.mono ?_
  rintro e w' ⟨rfl, hb2⟩
  replace hb2 := Aside0.mk hb2
  clear hc
  go_wp2_with fail
  go_ret
  exact ⟨rfl, hb2.out⟩

set_option maxHeartbeats 4000000 in
set_option maxRecDepth 100000 in
theorem insertion_nil (cv : Value) (W : World) :
    Calls Tryd.prog 57 #[.slice none 0 0, .int .i64 0, .int .i64 0, cv] W fun e w' => e = .returned (.tuple #[]) ∧ Below W.heap.size W w' := by
  go_enter Tryd.func57, Tryd.ntmps57
  go_wp2_with fail
  refine wp_loop_rounds 1 ?_
  rw [rounds_succ]
  go_wp2_with fail
  go_end0
  exact ⟨rfl, Below.refl _ _⟩
set_option maxHeartbeats 4000000 in
set_option maxRecDepth 100000 in
theorem stable_nil (cv : Value) (W : World) :
    Calls Tryd.prog 45 #[.slice none 0 0, .int .i64 0, cv] W fun e w' => e = .returned (.tuple #[]) ∧ Below W.heap.size W w' := by
  have hc := Aside0.mk (insertion_nil cv W)
  go_enter Tryd.func45, Tryd.ntmps45
  go_wp2_with fail
  refine wp_loop_rounds 1 ?_
  rw [rounds_succ]
  go_wp2_with fail
  refine hc.out.mono ?_
  rintro e w' ⟨rfl, hb2⟩
  replace hb2 := Aside0.mk hb2
  clear hc
  go_wp2_with fail
  refine wp_loop_rounds 1 ?_
  rw [rounds_succ]
  go_wp2_with fail
  go_end0
  exact ⟨rfl, hb2.out⟩
set_option maxHeartbeats 4000000 in
set_option maxRecDepth 100000 in
theorem sortStable_nil (cv : Value) (W : World) :
    Calls Tryd.prog 34 #[.slice none 0 0, cv] W fun e w' => e = .returned (.tuple #[]) ∧ Below W.heap.size W w' := by
  have hc := Aside0.mk (stable_nil cv W)
  go_enter Tryd.func34, Tryd.ntmps34
  go_wp2_with fail
  refine hc.out.mono ?_
  rintro e w' ⟨rfl, hb2⟩
  replace hb2 := Aside0.mk hb2
  clear hc
  go_wp2_with fail
  go_end0
  exact ⟨rfl, hb2.out⟩

/-! ### less -/
theorem cmpL_self : ∀ l : List Int, cmpL l l = 0
  | [] => rfl
  | x :: xs => by rw [cmpL, if_neg (by omega), if_neg (by omega), cmpL_self xs]
theorem cmpL_lt_trans : ∀ a b c : List Int, cmpL a b < 0 → cmpL b c < 0 → cmpL a c < 0
  | [], [], c, h, _ => by simp [cmpL] at h
  | [], y :: ys, [], _, h => by simp [cmpL] at h
  | [], y :: ys, z :: zs, _, _ => by simp [cmpL]
  | x :: xs, [], c, h, _ => by simp [cmpL] at h
  | x :: xs, y :: ys, [], _, h => by simp [cmpL] at h
  | x :: xs, y :: ys, z :: zs, h1, h2 => by
    rw [cmpL] at h1 h2 ⊢
    by_cases a1 : x < y
    · by_cases a2 : y < z
      · rw [if_pos (by omega)]; omega
      · rw [if_neg a2] at h2
        by_cases a3 : y > z
        · rw [if_pos a3] at h2; omega
        · rw [if_pos (by omega)]; omega
    · rw [if_neg a1] at h1
      by_cases a4 : x > y
      · rw [if_pos a4] at h1; omega
      · rw [if_neg a4] at h1
        by_cases a2 : y < z
        · rw [if_pos (by omega)]; omega
        · rw [if_neg a2] at h2
          by_cases a3 : y > z
          · rw [if_pos a3] at h2; omega
          · rw [if_neg a3] at h2
            rw [if_neg (by omega), if_neg (by omega)]
            exact cmpL_lt_trans xs ys zs h1 h2
theorem cmpL_anti : ∀ a b : List Int, cmpL a b = -cmpL b a
  | [], [] => rfl
  | [], y :: ys => rfl
  | x :: xs, [] => rfl
  | x :: xs, y :: ys => by
    rw [cmpL, cmpL]
    by_cases a1 : x < y
    · rw [if_pos a1, if_neg (by omega), if_pos (by omega)]
    · rw [if_neg a1]
      by_cases a2 : x > y
      · rw [if_pos a2, if_pos (by omega)]; rfl
      · rw [if_neg a2, if_neg (by omega), if_neg (by omega)]; exact cmpL_anti xs ys
theorem cmpL_zero : ∀ a b : List Int, cmpL a b = 0 → a = b
  | [], [], _ => rfl
  | [], y :: ys, h => by simp [cmpL] at h
  | x :: xs, [], h => by simp [cmpL] at h
  | x :: xs, y :: ys, h => by
    rw [cmpL] at h
    by_cases a1 : x < y
    · rw [if_pos a1] at h; omega
    · rw [if_neg a1] at h
      by_cases a2 : x > y
      · rw [if_pos a2] at h; omega
      · rw [if_neg a2] at h
        rw [cmpL_zero xs ys h, show x = y by omega]
theorem swo_ltV (r : Int) : SWO (fun x y : List Int => ltV r x y) where
  irrefl x := by simp [ltV, cmpL_self]
  trans x y z h1 h2 := by
    simp only [ltV, decide_eq_true_eq] at h1 h2 ⊢
    exact cmpL_lt_trans _ _ _ h1 h2
  ntrans x y z h1 h2 := by
    simp only [ltV, decide_eq_false_iff_not] at h1 h2 ⊢
    intro h3
    have a1 := cmpL_anti (thingsV x r) (thingsV y r)
    have a2 := cmpL_anti (thingsV y r) (thingsV z r)
    by_cases e1 : cmpL (thingsV x r) (thingsV y r) = 0
    · rw [cmpL_zero _ _ e1] at h3; omega
    · exact h2 (cmpL_lt_trans _ _ _ (by omega : cmpL (thingsV y r) (thingsV x r) < 0) h3)

set_option maxHeartbeats 4000000 in
set_option maxRecDepth 100000 in
theorem sort_none (A0 : Option Addr) (n c0 : Nat) (r : Int) (w : World) (h : ¬ (r = 1 ∨ r = 2 ∨ r = 3)) :
    Calls Tryd.prog 16 #[.slice A0 n c0, .int .i64 r] w fun e w' => e = .returned (.tuple #[.slice none 0 0, .int .i64 3]) ∧ Below w.heap.size w w' := by
  have hc := fun W : World => compare_none (.slice none 0 0) (.slice none 0 0) r W h
  have HC := Aside0.mk hc
  clear hc h
  go_enter Tryd.func16, Tryd.ntmps16
  go_wp2_with fail
  refine (HC.out _).mono ?_
  rintro e w' ⟨rfl, hb⟩
  replace hb := Aside0.mk (below_then ((Below.refl _ _).alloc (Nat.le_refl _) _) (by simp) hb)
  go_wp2_with fail
  go_ret2
  exact ⟨rfl, hb.out⟩

theorem own_all (W : World) (base : Nat) : Kd.S (Kd.slice 5 (Kd.int .u8)) 22 W base (fun _ => True) (.slice none 0 0) [] := Kd.S_nil _ _ _ _ _

set_option maxHeartbeats 16000000 in
set_option maxRecDepth 100000 in
theorem sort_some (A0 : Option Addr) (c0 : Nat) (l0 : List (List Int)) (r : Int) (w : World) (hr0 : Kd.C (Kd.slice 5 (Kd.int .u8)) w A0 l0.length l0) (_hc0 : l0.length ≤ c0) (h : r = 1 ∨ r = 2 ∨ r = 3) (hs : l0.all small = true) (hm : l0.length < 1099511627776) :
    Calls Tryd.prog 16 #[.slice A0 l0.length c0, .int .i64 r] w fun e w' => ∃ v0_ : Value, e = .returned (.tuple #[v0_, .int .i64 0]) ∧ Kd.S (Kd.slice 5 (Kd.int .u8)) 22 w' w.heap.size (fun _ => True) v0_ (sortV l0 r) ∧ Below w.heap.size w w' := by
  have HR0 := Aside0.mk hr0
  obtain ⟨R, hR⟩ : ∃ R, R = sortV l0 r := ⟨_, rfl⟩
  have HRES := Aside0.mk hR
  rw [← hR]
  have HH := Aside0.mk h
  have hnil : order_Compare.f [] [] r = some (0, 0) := by
    unfold order_Compare.f
    rw [if_pos h]
    rcases h with rfl | rfl | rfl <;> rfl
  have HC := Aside0.mk (fun W : World => order_Compare.calls none 0 [] none 0 [] r 0 0 W (C_nil W) (Nat.le_refl _) (C_nil W) (Nat.le_refl _) hnil)
  have HS := Aside0.mk hs
  clear hr0 hR h hnil hs
  go_enter Tryd.func16, Tryd.ntmps16
  go_wp2_with fail
  refine (HC.out _).mono ?_
  rintro e W1 ⟨rfl, hb⟩
  have hbx : W1.cell? ⟨w.heap.size, 0, none⟩ = some (.int .i64 r) := by
    rw [hb.cell (by simp)]
    exact (blk_cell (heap_alloc_new w _) 0).trans rfl
  replace hb := below_then ((Below.refl _ _).alloc (Nat.le_refl _) _) (by simp) hb
  have HB := Aside0.mk hb
  have HBX := Aside0.mk hbx
  clear HC hb hbx
  go_wp2_with fail
  go_loopg [8, 21] l0.length (fun g v8 v21 W => ∃ k : Nat, v21 = .int .i64 k ∧ k ≤ l0.length ∧ l0.length - k ≤ g ∧ Aside0 (Kd.S (Kd.slice 5 (Kd.int .u8)) 22 W W1.heap.size (fun _ => True) v8 (l0.take k)) ∧ Aside0 (Below W1.heap.size W1 W))
  case atStart => exact ⟨0, rfl, by omega, by omega, ⟨own_all _ _⟩, ⟨Below.refl _ _⟩⟩
  case round =>
    obtain ⟨k, rfl, hk, hg, HO, HW⟩ := hrel
    by_cases hkn : k < l0.length
    · have e1 : decide ((k : Int) < (l0.length : Int)) = true := decide_eq_true (by omega)
      have hHC := Kd.C_below HR0.out (below_then HB.out HB.out.size HW.out)
      obtain ⟨ad, A1, c1, eA, hcell, hle, hC⟩ := at_LL hHC k (by omega) (by omega)
      cases eA
      have hx : rd_LL l0 k = l0[k] := by
        show l0.getD _ _ = _
        rw [List.getD_eq_getElem?_getD, Int.toNat_natCast, List.getElem?_eq_getElem hkn]; rfl
      have ht : l0.take (k + 1) = l0.take k ++ [l0[k]] := by rw [List.take_add_one, List.getElem?_eq_getElem hkn]; rfl
      have hsm : l0[k].length < 35184372088832 := of_decide_eq_true (List.all_eq_true.1 HS.out _ (List.getElem_mem hkn))
      have hkl : (l0.take k).length = k := by rw [List.length_take]; omega
      rw [hx] at hcell hle hC
      rw [Int.toNat_natCast] at hcell
      generalize l0[k] = x at hcell hle hC ht hsm
      generalize l0.take k = xs at HO ht hkl
      have HT := Aside0.mk ht
      have HLE := Aside0.mk hle
      have HCX := Aside0.mk hC
      have HKL := Aside0.mk hkl
      clear hx ht hle hC hHC hkl
      have HBr := Aside0.mk (Below.refl wr.heap.size wr)
      go_wp2_with (first
        | ((with_reducible refine gate_dst (N := 26) rfl ?_); refine Kd.R_lit (Kd.int .u8) wr.heap.size 5 ?hg (N := 26) ?hd (xs := ([] : List Int)) (inner := []) (ok := fun _ => True) (okp := fun _ => True) ?hr ?hp (fun _ hk => hk) trivial HBr.out (Nat.le_refl _) (by simp) ?_; (case hd => rfl); (case hg => rfl); (case hr => first | (go_simp; done) | (go_simp; rfl)); (case hp => exact (Reps.none _ _)); intro v26 w26 ho hb hg_ hnew_; clear hg_ hnew_; replace HBr := Aside0.mk hb; have HO26 := Aside0.mk ho; clear hb ho)
        | ((with_reducible refine gate_builtin (b := .append) (xs := #[.tmp 26, .tmp 27]) rfl ?_); at_builtin; refine Kd.R_append_rows (Kd.int .u8) (w0 := wr) wr.heap.size rfl (.tmp 26) (.tmp 27) 22 5 (.int .u8 0) 1 rfl Tryd.underlying22 info5 rfl (by decide) (by omega) v26 [] x _ _ _ (fun _ => True) (fun _ => False) rfl rfl HO26.out (Kd.C_below HCX.out HBr.out) (fun _ _ h => h) (fun _ h => h.elim) (fun _ _ => trivial) HBr.out HBr.out.size (by simp only [List.length_nil]; omega) ?_; intro v28 w28 ho hb hg_ hat; rw [List.nil_append] at ho; have n0_ := Aside0.mk (Kd.S_elder' HO.out (Kd.R_base ho) hb); have n1_ := Aside0.mk (Kd.R_lower ho HW.out.size); have n2_ := Aside0.mk (below_then HW.out HW.out.size hb); clear HO HW HBr HO26 ho hb hg_ hat; have HO := n0_; have HO28 := n1_; have HW := n2_; clear n0_ n1_ n2_; obtain ⟨Ao, co, eo⟩ := Kd.R_slice HO28.out; subst eo)
        | ((with_reducible refine gate_builtin (b := .append) (xs := #[.tmp 25, .tmp 29]) rfl ?_); at_builtin; refine Kd.S_append (Kd.slice 5 (Kd.int .u8)) (w0 := W1) W1.heap.size rfl (.tmp 25) (.tmp 29) 33 22 (.slice none 0 0) 24 rfl Tryd.underlying33 infoB22 rfl (by decide) (by omega) u8 xs x [.slice Ao x.length co] (fun _ => True) (fun k_ => some k_ = (.slice Ao x.length co : Value).ownBlock) rfl rfl ?aP (fun k_ hk_ => ((Kd.R_mono (ok' := fun k_ => ((fun _ => True)) k_ ∧ some k_ ≠ (u8 : Value).ownBlock) (Kd.R_apart' (HO28.out) (Kd.S_typed HO.out) (by decide)) (fun k_ hk => ⟨trivial, hk.2⟩))).1 k_ hk_.symm) ?aF ?aO ?aB ?aS ?aL ?_; (case aP => exact Kd.M_row (Kd.R_mono (Kd.R_tight rfl (Kd.R_mono (ok' := fun k_ => ((fun _ => True)) k_ ∧ some k_ ≠ (u8 : Value).ownBlock) (Kd.R_apart' (HO28.out) (Kd.S_typed HO.out) (by decide)) (fun k_ hk => ⟨trivial, hk.2⟩))) (fun _ h_ => h_))); (case aB => exact HW.out); (case aF => exact (fun _ _ => trivial)); (case aO => exact (by (with_reducible repeat (first | apply Kd.S_alloc | apply Kd.S_drewN | apply Kd.S_drew)); exact Kd.S_mono HO.out (fun k_ hk => ⟨trivial, fun e_ => hk.2 e_⟩))); (case aS => exact below_size HW.out); (case aL => have := HKL.out; omega); intro v30 w30 ho hb hg_ hat; rw [← HT.out] at ho; replace HW := Aside0.mk hb; replace HO := Aside0.mk ho; clear ho hb hg_ hat HO28))
      go_roundg (l0.length - (k + 1))
      case measure => omega
      case rel => exact ⟨k + 1, by go_num, by omega, by omega, HO, HW⟩
    · have e1 : decide ((k : Int) < (l0.length : Int)) = false := decide_eq_false (by omega)
      obtain rfl : k = l0.length := by omega
      have HO2 := HO.out
      rw [List.take_length] at HO2
      replace HO2 := Aside0.mk HO2
      clear HO
      have HBW := Aside0.mk (below_then HB.out HB.out.size HW.out)
      have hbx2 : wr.cell? ⟨w.heap.size, 0, none⟩ = some (.int .i64 r) := by
        rw [HW.out.cell (block_lt_of_cell HBX.out)]; exact HBX.out
      have hlt : w.heap.size < W1.heap.size := block_lt_of_cell HBX.out
      obtain ⟨inner, hown⟩ := Kd.S_own HO2.out
      rcases hown.2 with ⟨rfl, hz⟩ | ⟨g, cap, cur, rfl, hgb, -, -, -, -, -⟩
      · have hl : l0 = [] := List.length_eq_zero_iff.1 hz
        have HRN := Aside0.mk (show R = [] by rw [HRES.out, hl]; unfold sortV; rw [List.mergeSort_nil])
        have hc := Aside0.mk (sortStable_nil (.func (.func 35) #[] #[.pointer (some ⟨w.heap.size, 0, none⟩)]) wr)
        clear hz hl hown hbx2
        go_wp2_with fail
        refine hc.out.mono ?_
        rintro e W2 ⟨rfl, hb2⟩
        replace hb2 := Aside0.mk hb2
        clear hc
        go_wp2_with fail
        go_ret2
        exact ⟨_, rfl, by rw [HRN.out]; exact Kd.S_nil _ _ _ _ _, below_then HBW.out HBW.out.size hb2.out⟩
      · obtain ⟨f, rest, L, HOP, hLx⟩ := open_S HO2.out HS.out
        have hcmp : CmpB Tryd.prog 35 #[.pointer (some ⟨w.heap.size, 0, none⟩)] (encT (w0 := wr) (g := g)) (cfT r) wr g rest l0.length := by
          intro d W' _ S x y
          have hcl : W'.cell? ⟨w.heap.size, 0, none⟩ = some (.int .i64 r) := S.kept.cell hbx2 (fun e => by have := Option.some.inj e; simp only at this; omega)
          refine closure_walk _ _ _ _ _ _ w.heap.size r (cfT r x y) W' (x.1.2.2.2 W' S.kept) x.1.2.1 (y.1.2.2.2 W' S.kept) y.1.2.1 hcl ?_
          unfold order_Compare.f
          rw [if_pos HH.out, x.1.2.2.1, y.1.2.2.1]; rfl
        have hc := Aside0.mk (sortStable_walk (w0 := wr) (g := g) (rest := rest) encT_one (cfT r) #[.pointer (some ⟨w.heap.size, 0, none⟩)] cap l0.length (Go.Proofs.YtdomggegacgmnaaDoor.tagged L) wr hcmp (by rw [Go.Proofs.YtdomggegacgmnaaDoor.tagged_size, HOP.len]) HOP.sb (by omega))
        have hboth := stable_both (fun x y : GEl wr g => ltV r x.1.l y.1.l) ⟨fun x => (swo_ltV r).irrefl _, fun x y z => (swo_ltV r).trans _ _ _, fun x y z => (swo_ltV r).ntrans _ _ _⟩ L
        have hst : stable (ltOf (cfT r)) (Go.Proofs.YtdomggegacgmnaaDoor.tagged L) = stable (fun x y : GEl wr g × Nat => ltV r x.1.1.l y.1.1.l) (Go.Proofs.YtdomggegacgmnaaDoor.tagged L) := rfl
        rw [hst] at hc
        generalize stable (fun x y : GEl wr g × Nat => ltV r x.1.1.l y.1.1.l) (Go.Proofs.YtdomggegacgmnaaDoor.tagged L) = D at hc hboth
        have hD : D.toList.map (fun x => x.1.1.l) = R := by
          rw [HRES.out, ← hLx]
          have e1 : D.toList.map (fun x => x.1.1.l) = (D.toList.map (·.1)).map (fun x => x.1.l) := by rw [List.map_map]; rfl
          rw [e1, hboth.2]
          exact List.map_mergeSort (fun a _ b _ => rfl)
        have HSH := Aside0.mk (show ∀ W2, SB encT wr g rest D W2 → Kd.S (Kd.slice 5 (Kd.int .u8)) 22 W2 w.heap.size (fun _ => True) (.slice (some ⟨g, 0, none⟩) l0.length cap) R ∧ Below w.heap.size w W2 from fun W2 S2 => by
          refine ⟨?_, HBW.out.grown S2.kept HBW.out.size (fun k e => by cases e; omega)⟩
          rw [← hD]
          exact Kd.S_lower (shut_S HOP hboth.1 S2) (by omega))
        clear hst hboth hD hcmp HOP hLx hown hbx2
        go_wp2_with fail
        refine hc.out.mono ?_
        rintro e W2 ⟨rfl, S2⟩
        replace S2 := Aside0.mk S2
        clear hc
        go_wp2_with fail
        go_ret2
        exact ⟨_, rfl, HSH.out _ S2.out⟩

theorem order_Sort.calls (A0 : Option Addr) (c0 : Nat) (l0 : List (List Int)) (a1 : Int) (r1 : List (List Int)) (r2 : Int) (w : World) (hr0 : Kd.C (Kd.slice 5 (Kd.int .u8)) w A0 l0.length l0) (hc0 : l0.length ≤ c0) (h : order_Sort.f l0 a1 = some (r1, r2)) :
    Calls Tryd.prog 16 #[.slice A0 l0.length c0, .int .i64 a1] w fun e w' => ∃ v0_ : Value, e = .returned (.tuple #[v0_, .int .i64 r2]) ∧ Kd.S (Kd.slice 5 (Kd.int .u8)) 22 w' w.heap.size (fun _ => True) v0_ r1 ∧ Below w.heap.size w w' := by
  unfold order_Sort.f at h
  by_cases c : a1 = 1 ∨ a1 = 2 ∨ a1 = 3
  · rw [if_pos c] at h
    by_cases hs : (l0.all small && decide (l0.length < 1099511627776)) = true
    · rw [if_pos hs] at h
      simp only [Option.some.injEq, Prod.mk.injEq] at h
      obtain ⟨rfl, rfl⟩ := h
      rw [Bool.and_eq_true, decide_eq_true_eq] at hs
      exact sort_some A0 c0 l0 a1 w hr0 hc0 c hs.1 hs.2
    · rw [if_neg hs] at h; cases h
  · rw [if_neg c] at h
    simp only [Option.some.injEq, Prod.mk.injEq] at h
    obtain ⟨rfl, rfl⟩ := h
    refine (sort_none A0 _ c0 a1 w c).mono ?_
    rintro e w' ⟨rfl, hb⟩
    exact ⟨_, rfl, Kd.S_nil _ _ _ _ _, hb⟩
end Go.Proofs.YtdomggegacgmnaaDoor.PA
