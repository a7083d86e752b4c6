/- slices.SortStableFunc at a row of structs: it leaves the row that the plain 'stable' leaves; what else there was stays. Conditions: the row's cells are of one value each; cmp hands back cf x y and turns nothing (CmpB). -/
import Derived.Test.YtjladdjpnicldaaGSymC
namespace Go.Proofs.Ytjladdjpnicldaa.PA
open Go.Sort Go.RowKit Go.Shelf Go.Lib Go.Proofs.YtjladdjpnicldaaW.PrintWords Go.Proofs.YtjladdjpnicldaaW.PrintLast Go.Proofs.YtjladdjpnicldaaW.PrintMore
variable {Pg : Program} {k : Nat} {α : Type} [Inhabited α] {enc : α → List Value} {w0 W : World} {g : Nat} {rest : List Value} {d : Array α}

theorem size_insInner (lt : α → α → Bool) (a : Nat) : ∀ (j : Nat) (d : Array α), (insInner lt a j d).size = d.size
  | 0, d => by rw [insInner]
  | j + 1, d => by
    rw [insInner]
    split
    · rw [size_insInner lt a j, size_swp]
    · rfl
theorem size_insOuter (lt : α → α → Bool) (a b : Nat) : ∀ (n i : Nat) (d : Array α), b - i ≤ n → (insOuter lt a b i d).size = d.size
  | 0, i, d, h => by rw [insOuter_stop lt a b i d (by omega)]
  | n + 1, i, d, h => by
    by_cases c : i < b
    · rw [insOuter_go lt a b i d c, size_insOuter lt a b n (i + 1) _ (by omega), size_insInner]
    · rw [insOuter_stop lt a b i d c]
theorem size_insertion (lt : α → α → Bool) (d : Array α) (a b : Nat) : (insertionSort lt d a b).size = d.size := size_insOuter lt a b _ _ d (Nat.le_refl _)

set_option maxHeartbeats 16000000 in
set_option maxRecDepth 100000 in
theorem stable_walk (LS : SymL Pg) (zE : ∀ w, (Go.sizeOf 24).run Pg w = .ok k w) (E : EncK enc k) (cf : α → α → Int) (c : Nat) (eg : ∀ args w, (callFunc c args).run Pg w = .ok (.enter c args) w) (cap n : Nat) (d : Array α) (W : World) (HC : CmpB Pg c enc k cf w0 g rest n) (hn : d.size = n) (S : SB enc k w0 g rest d W) (hsz : n < 1152921504606846976) :
    Calls Pg 51 #[.slice (some ⟨g, 0, none⟩) n cap, .int .i64 n, .func (.func c) #[] #[]] W fun e w' => e = .returned (.tuple #[]) ∧ SB enc k w0 g rest (stable (ltOf cf) d) w' := by
  have S0 := Aside0.mk S
  have HC := Aside0.mk HC
  clear S
  have mixed := LS.mixed; have t0 := LS.t0; have a0 := LS.a0; have z0 := LS.z0; have v0 := LS.v0; have t3 := LS.t3; have a3 := LS.a3; have z3 := LS.z3; have v3 := LS.v3; have t4 := LS.t4; have a4 := LS.a4; have z4 := LS.z4; have v4 := LS.v4; have t40 := LS.t40; have a40 := LS.a40; have z40 := LS.z40; have v40 := LS.v40; have t85 := LS.t85; have a85 := LS.a85; have z85 := LS.z85; have v85 := LS.v85; have t121 := LS.t121; have a121 := LS.a121; have z121 := LS.z121; have v121 := LS.v121
  have u40 := run_underlying LS.t40
  have u121 := run_underlying LS.t121
  have u3 := run_underlying LS.t3
  have aE := LS.a24
  have F := LS.f51
  have eI : ∀ args w, (callFunc 66 args).run Pg w = .ok (.enter 66 args) w := fun args w => enters_of LS.f66 rfl rfl args w
  have eR : ∀ args w, (callFunc 81 args).run Pg w = .ok (.enter 81 args) w := fun args w => enters_of LS.f81 rfl rfl args w
  have eM : ∀ args w, (callFunc 67 args).run Pg w = .ok (.enter 67 args) w := fun args w => enters_of LS.f67 rfl rfl args w
  have LS := Aside0.mk LS
  have E := Aside0.mk E
  obtain ⟨R, hR⟩ : ∃ R, R = stable (ltOf cf) d := ⟨_, rfl⟩
  have HR := Aside0.mk (show R = stableLoop (ltOf cf) n (n + 1) (insBlocks (ltOf cf) n (n + 1) d 0) 20 by rw [hR, stable, hn])
  rw [← hR]
  clear hR
  go_enter F, Try.ntmps51
  go_wp2_with fail
  go_loopg [7, 8] n (fun kk v7 v8 wr => ∃ (x y f : Nat) (dk : Array α), v7 = .int .i64 x ∧ v8 = .int .i64 y ∧ y = x + 20 ∧ x ≤ n ∧ n - x < f + 1 ∧ n - x ≤ kk ∧ dk.size = n ∧ Aside0 (SB enc k w0 g rest dk wr) ∧ Aside0 (insBlocks (ltOf cf) n (f + 1) dk x = insBlocks (ltOf cf) n (n + 1) d 0))
  case atStart => exact ⟨0, 20, n, d, rfl, rfl, rfl, by omega, by omega, by omega, hn, S0, ⟨rfl⟩⟩
  case round =>
    clear S0
    obtain ⟨x, y, f, dk, rfl, rfl, hy, hx, hf, hk, hsk, S1, HB⟩ := hrel
    have HY := Aside0.mk hy
    have hxy : x ≤ y := by omega
    have hy2 : y < 2305843009213693952 := by omega
    clear hy
    by_cases hyn : y ≤ n
    · have e1 : decide ((y : Int) ≤ (n : Int)) = true := decide_eq_true (by omega)
      obtain ⟨y2, hy3⟩ : ∃ y2, y2 = y + 20 := ⟨_, rfl⟩
      have e2 : IntKind.i64.wrap ((y : Int) + 20) = (y2 : Int) := by rw [IntKind.wrap_i64]; omega
      have z2 : (y : Int) + 20 = (y2 : Int) := by omega
      have HY3 := Aside0.mk hy3
      clear hy3
      have hc := Aside0.mk (insertion_walk LS.out zE E.out cf c eg cap x y n dk wr HC.out hsk S1.out hxy hyn (by omega))
      have HB2 := Aside0.mk (show insBlocks (ltOf cf) n (f + 1) dk x = insBlocks (ltOf cf) n f (insertionSort (ltOf cf) dk x y) y by rw [insBlocks, if_pos (by have := HY.out; omega), HY.out])
      have hs2 := size_insertion (ltOf cf) dk x y
      generalize insertionSort (ltOf cf) dk x y = d2 at hc HB2 hs2
      obtain ⟨f, rfl⟩ : ∃ f', f = f' + 1 := ⟨f - 1, by have := HY.out; omega⟩
      clear S1
      go_wp2_with fail
      refine hc.out.mono ?_
      rintro e W2 ⟨rfl, S2⟩
      replace S2 := Aside0.mk S2
      clear hc
      go_wp2_with fail
      go_roundg (n - y)
      case measure => have := HY.out; omega
      case rel => exact ⟨y, y2, f, d2, rfl, rfl, HY3.out, hyn, by have := HY.out; omega, Nat.le_refl _, by rw [hs2]; exact hsk, S2, ⟨by rw [← HB2.out]; exact HB.out⟩⟩
    · have e1 : decide ((y : Int) ≤ (n : Int)) = false := decide_eq_false (by omega)
      have hc := Aside0.mk (insertion_walk LS.out zE E.out cf c eg cap x n n dk wr HC.out hsk S1.out hx (Nat.le_refl _) (by omega))
      have HB2 := Aside0.mk (show insBlocks (ltOf cf) n (f + 1) dk x = insertionSort (ltOf cf) dk x n by rw [insBlocks, if_neg (by have := HY.out; omega)])
      have hs2 := size_insertion (ltOf cf) dk x n
      generalize insertionSort (ltOf cf) dk x n = d2 at hc HB2 hs2
      have HR2 := Aside0.mk (show R = stableLoop (ltOf cf) n (n + 1) d2 20 by rw [HR.out, ← HB.out, HB2.out])
      have hd2 : d2.size = n := by rw [hs2]; exact hsk
      clear S1 HB HB2 HR hs2 hsk hf hx hxy HY
      go_wp2_with fail
      refine hc.out.mono ?_
      rintro e W2 ⟨rfl, S2⟩
      replace S2 := Aside0.mk S2
      clear hc
      go_wp2_with fail
      go_loopg [6] n (fun kk v6 wr => ∃ (z f : Nat) (dk : Array α), v6 = .int .i64 z ∧ 0 < z ∧ z < 2305843009213693952 ∧ n < f + z ∧ n - z ≤ kk ∧ dk.size = n ∧ Aside0 (SB enc k w0 g rest dk wr) ∧ Aside0 (R = stableLoop (ltOf cf) n f dk z))
      case atStart => exact ⟨20, n + 1, d2, rfl, by omega, by omega, by omega, by omega, hd2, S2, HR2⟩
      case round =>
        clear S2 HR2 hd2
        obtain ⟨z, f, dk, rfl, hz0, hz1, hf, hk3, hsk, S1, HR⟩ := hrel
        by_cases hzn : z < n
        · have e2 : decide ((z : Int) < (n : Int)) = true := decide_eq_true (by omega)
          obtain ⟨t, ht⟩ : ∃ t, t = 2 * z := ⟨_, rfl⟩
          have e3 : IntKind.i64.wrap (2 * (z : Int)) = (t : Int) := by rw [IntKind.wrap_i64]; omega
          have z3 : 2 * (z : Int) = (t : Int) := by omega
          have e4 : IntKind.i64.wrap ((z : Int) * 2) = (t : Int) := by rw [IntKind.wrap_i64]; omega
          have z4 : (z : Int) * 2 = (t : Int) := by omega
          obtain ⟨f, rfl⟩ : ∃ f', f = f' + 1 := ⟨f - 1, by omega⟩
          have HR2 := Aside0.mk (show R = stableLoop (ltOf cf) n f (mergePass (ltOf cf) n z (n + 1) dk 0) t by rw [HR.out, stableLoop, if_pos hzn, ht])
          have HT := Aside0.mk ht
          have ht2 : t < 2305843009213693952 := by omega
          have ht3 : z < t := by omega
          clear ht HR
          go_wp2_with fail
          go_loopg [7, 8] n (fun kk v7 v8 wr => ∃ (x y f : Nat) (dj : Array α), v7 = .int .i64 x ∧ v8 = .int .i64 y ∧ y = x + t ∧ x ≤ n ∧ n - x < f + 1 ∧ n - x ≤ kk ∧ dj.size = n ∧ Aside0 (SB enc k w0 g rest dj wr) ∧ Aside0 (mergePass (ltOf cf) n z (f + 1) dj x = mergePass (ltOf cf) n z (n + 1) dk 0))
          case atStart => exact ⟨0, t, n, dk, rfl, rfl, by omega, by omega, by omega, by omega, hsk, S1, ⟨rfl⟩⟩
          case round =>
            clear S1
            obtain ⟨x, y, f2, dj, rfl, rfl, hy, hx, hf2, hk4, hsj, S1, HM⟩ := hrel
            have HY := Aside0.mk hy
            have hxy : x < y := by omega
            have hy2 : y < 3458764513820540928 := by omega
            obtain ⟨m, hm⟩ : ∃ m, m = x + z := ⟨_, rfl⟩
            have e5 : IntKind.i64.wrap ((x : Int) + (z : Int)) = (m : Int) := by rw [IntKind.wrap_i64]; omega
            have z5 : (x : Int) + (z : Int) = (m : Int) := by omega
            have hm2 : x < m ∧ m < y := by have := HT.out; omega
            have HMM := Aside0.mk hm
            clear hy hm
            by_cases hyn : y ≤ n
            · have e6 : decide ((y : Int) ≤ (n : Int)) = true := decide_eq_true (by omega)
              obtain ⟨y2, hy3⟩ : ∃ y2, y2 = y + t := ⟨_, rfl⟩
              have e7 : IntKind.i64.wrap ((y : Int) + (t : Int)) = (y2 : Int) := by rw [IntKind.wrap_i64]; omega
              have z7 : (y : Int) + (t : Int) = (y2 : Int) := by omega
              have HY3 := Aside0.mk hy3
              clear hy3
              have hc := Aside0.mk (sym_walk LS.out zE E.out cf c eg cap n HC.out (by omega) (2 * z) x m y dj wr (by have := HY.out; have := HT.out; omega) hm2.1 hm2.2 hyn hsj S1.out)
              obtain ⟨f3, rfl⟩ : ∃ f', f2 = f' + 1 := ⟨f2 - 1, by have := HY.out; omega⟩
              have HM2 := Aside0.mk (show mergePass (ltOf cf) n z (f3 + 1 + 1) dj x = mergePass (ltOf cf) n z (f3 + 1) (symMerge (ltOf cf) (2 * z) dj x m y) y by
                rw [mergePass, if_pos (by have := HY.out; have := HT.out; omega), show x + 2 * z = y by have := HY.out; have := HT.out; omega, show x + z = m from HMM.out.symm])
              have hs2 := size_symMerge (ltOf cf) (2 * z) dj x m y
              generalize symMerge (ltOf cf) (2 * z) dj x m y = d3 at hc HM2 hs2
              clear S1
              go_wp2_with fail
              refine hc.out.mono ?_
              rintro e W3 ⟨rfl, S3⟩
              replace S3 := Aside0.mk S3
              clear hc
              go_wp2_with fail
              go_roundg (n - y)
              case measure => have := HY.out; omega
              case rel => exact ⟨y, y2, f3, d3, rfl, rfl, HY3.out, hyn, by have := HY.out; omega, Nat.le_refl _, by rw [hs2]; exact hsj, S3, ⟨by rw [← HM2.out]; exact HM.out⟩⟩
            · have e6 : decide ((y : Int) ≤ (n : Int)) = false := decide_eq_false (by omega)
              by_cases hmn : m < n
              · have e8 : decide ((m : Int) < (n : Int)) = true := decide_eq_true (by omega)
                have hc := Aside0.mk (sym_walk LS.out zE E.out cf c eg cap n HC.out (by omega) (n - x) x m n dj wr (by omega) hm2.1 hmn (Nat.le_refl _) hsj S1.out)
                have HM2 := Aside0.mk (show mergePass (ltOf cf) n z (f2 + 1) dj x = symMerge (ltOf cf) (n - x) dj x m n by
                  rw [mergePass, if_neg (by have := HY.out; have := HT.out; omega), show x + z = m from HMM.out.symm, if_pos hmn])
                have hs2 := size_symMerge (ltOf cf) (n - x) dj x m n
                generalize symMerge (ltOf cf) (n - x) dj x m n = d3 at hc HM2 hs2
                clear S1
                go_wp2_with fail
                refine hc.out.mono ?_
                rintro e W3 ⟨rfl, S3⟩
                replace S3 := Aside0.mk S3
                clear hc
                go_wp2_with fail
                go_roundg (n - t)
                case measure => omega
                case rel => exact ⟨t, f, d3, rfl, by omega, ht2, by omega, Nat.le_refl _, by rw [hs2]; exact hsj, S3, ⟨by rw [HR2.out, ← HM.out, HM2.out]⟩⟩
              · have e8 : decide ((m : Int) < (n : Int)) = false := decide_eq_false (by omega)
                have HM2 := Aside0.mk (show mergePass (ltOf cf) n z (f2 + 1) dj x = dj by
                  rw [mergePass, if_neg (by have := HY.out; have := HT.out; omega), show x + z = m from HMM.out.symm, if_neg hmn])
                go_wp2_with fail
                go_roundg (n - t)
                case measure => omega
                case rel => exact ⟨t, f, dj, rfl, by omega, ht2, by omega, Nat.le_refl _, hsj, S1, ⟨by rw [HR2.out, ← HM.out, HM2.out]⟩⟩
        · have e2 : decide ((z : Int) < (n : Int)) = false := decide_eq_false (by omega)
          go_wp2_with fail
          go_end0
          refine ⟨rfl, ?_⟩
          have : R = dk := by
            rw [HR.out]
            cases f with
            | zero => rfl
            | succ f => rw [stableLoop, if_neg hzn]
          rw [this]
          exact S1.out

set_option maxHeartbeats 4000000 in
set_option maxRecDepth 100000 in
theorem sortStable_walk (LS : SymL Pg) (zE : ∀ w, (Go.sizeOf 24).run Pg w = .ok k w) (E : EncK enc k) (cf : α → α → Int) (c : Nat) (eg : ∀ args w, (callFunc c args).run Pg w = .ok (.enter c args) w) (cap n : Nat) (d : Array α) (W : World) (HC : CmpB Pg c enc k cf w0 g rest n) (hn : d.size = n) (S : SB enc k w0 g rest d W) (hsz : n < 1152921504606846976) :
    Calls Pg 32 #[.slice (some ⟨g, 0, none⟩) n cap, .func (.func c) #[] #[]] W fun e w' => e = .returned (.tuple #[]) ∧ SB enc k w0 g rest (stable (ltOf cf) d) w' := by
  have hc := Aside0.mk (stable_walk LS zE E cf c eg cap n d W HC hn S hsz)
  generalize stable (ltOf cf) d = d2 at hc ⊢
  clear S HC
  have mixed := LS.mixed; have t0 := LS.t0; have a0 := LS.a0; have z0 := LS.z0; have v0 := LS.v0; have t3 := LS.t3; have a3 := LS.a3; have z3 := LS.z3; have v3 := LS.v3; have t4 := LS.t4; have a4 := LS.a4; have z4 := LS.z4; have v4 := LS.v4; have t40 := LS.t40; have a40 := LS.a40; have z40 := LS.z40; have v40 := LS.v40; have t85 := LS.t85; have a85 := LS.a85; have z85 := LS.z85; have v85 := LS.v85; have t121 := LS.t121; have a121 := LS.a121; have z121 := LS.z121; have v121 := LS.v121
  have u40 := run_underlying LS.t40
  have u121 := run_underlying LS.t121
  have u3 := run_underlying LS.t3
  have aE := LS.a24
  have F := LS.f32
  have eS : ∀ args w, (callFunc 51 args).run Pg w = .ok (.enter 51 args) w := fun args w => enters_of LS.f51 rfl rfl args w
  have LS := Aside0.mk LS
  have E := Aside0.mk E
  go_enter F, Try.ntmps32
  go_wp2_with fail
  refine hc.out.mono ?_
  rintro e W3 ⟨rfl, S3⟩
  replace S3 := Aside0.mk S3
  clear hc
  go_wp2_with fail
  go_end0
  exact ⟨rfl, S3.out⟩
end Go.Proofs.Ytjladdjpnicldaa.PA
