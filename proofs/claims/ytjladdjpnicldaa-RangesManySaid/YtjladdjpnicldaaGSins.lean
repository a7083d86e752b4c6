/- insertionSort and rotate of slices.SortStableFunc at a row of structs. -/
import Derived.Test.YtjladdjpnicldaaGSrow
namespace Go.Proofs.Ytjladdjpnicldaa.PA
open Go.Sort Go.RowKit Go.Shelf Go.Lib Go.Proofs.YtjladdjpnicldaaW.PrintWords Go.Proofs.YtjladdjpnicldaaW.PrintLast Go.Proofs.YtjladdjpnicldaaW.PrintMore
variable {P : Program} {α : Type} {enc : α → List Value} {k : Nat} {w0 W : World} {g : Nat} {rest : List Value} {d : Array α} [Inhabited α]

theorem ins_go (lt : α → α → Bool) (a j : Nat) (d : Array α) (hj : a < j) (hl : lt d[j]! d[j - 1]! = true) : insInner lt a j d = insInner lt a (j - 1) (swp d j (j - 1)) := by
  obtain ⟨k, rfl⟩ : ∃ k, j = k + 1 := ⟨j - 1, by omega⟩
  rw [insInner]
  simp only [Nat.add_sub_cancel] at hl ⊢
  rw [if_pos (by simp [hl]; omega)]
theorem ins_stop (lt : α → α → Bool) (a j : Nat) (d : Array α) (h : j ≤ a ∨ lt d[j]! d[j - 1]! = false) : insInner lt a j d = d := by
  cases j with
  | zero => rw [insInner]
  | succ k =>
    rw [insInner, if_neg]
    rcases h with h | h
    · simp; omega
    · simp only [Nat.add_sub_cancel] at h; simp [h]

set_option maxHeartbeats 16000000 in
set_option maxRecDepth 100000 in
theorem insertion_walk (L : SymL P) (zE : ∀ w, (Go.sizeOf 24).run P w = .ok k w) (E : EncK enc k) (cf : α → α → Int) (c : Nat) (eg : ∀ args w, (callFunc c args).run P w = .ok (.enter c args) w) (cap a b n : Nat) (d : Array α) (W : World) (HC : CmpB P c enc k cf w0 g rest n) (hn : d.size = n) (S : SB enc k w0 g rest d W) (hab : a ≤ b) (hb : b ≤ n) (hsz : n < 4611686018427387904) :
    Calls P 66 #[.slice (some ⟨g, 0, none⟩) n cap, .int .i64 a, .int .i64 b, .func (.func c) #[] #[]] W fun e w' => e = .returned (.tuple #[]) ∧ SB enc k w0 g rest (insertionSort (ltOf cf) d a b) w' := by
  have mixed := L.mixed; have t0 := L.t0; have a0 := L.a0; have z0 := L.z0; have v0 := L.v0; have t3 := L.t3; have a3 := L.a3; have z3 := L.z3; have v3 := L.v3; have t4 := L.t4; have a4 := L.a4; have z4 := L.z4; have v4 := L.v4; have t40 := L.t40; have a40 := L.a40; have z40 := L.z40; have v40 := L.v40; have t85 := L.t85; have a85 := L.a85; have z85 := L.z85; have v85 := L.v85
  have u40 := run_underlying L.t40
  have aE := L.a24
  have F := L.f66
  clear L
  have S0 := Aside0.mk S
  have HC := Aside0.mk HC
  have E := Aside0.mk E
  clear S
  go_enter F, Try.ntmps66
  go_wp2_with fail
  go_loopg [8] (b - a) (fun g1 vi wr => ∃ (i : Nat) (dk : Array α), vi = .int .i64 i ∧ a < i ∧ i ≤ b + 1 ∧ b + 1 - i ≤ g1 + 1 ∧ dk.size = n ∧ Aside0 (SB enc k w0 g rest dk wr) ∧ Aside0 (insOuter (ltOf cf) a b i dk = insOuter (ltOf cf) a b (a + 1) d))
  case atStart => exact ⟨a + 1, d, by go_num, by omega, by omega, by omega, hn, S0, ⟨rfl⟩⟩
  case round =>
    clear S0
    obtain ⟨i, dk, rfl, hai, hib, hg1, hsk, S1, HO⟩ := hrel
    by_cases hlt : i < b
    · have hltz : decide ((i : Int) < (b : Int)) = true := decide_eq_true (by omega)
      go_wp2_with fail
      go_loopg [9] i (fun g2 vj wr2 => ∃ (j : Nat) (dj : Array α), vj = .int .i64 j ∧ a ≤ j ∧ j ≤ i ∧ j ≤ g2 ∧ dj.size = n ∧ Aside0 (SB enc k w0 g rest dj wr2) ∧ Aside0 (insInner (ltOf cf) a j dj = insInner (ltOf cf) a i dk))
      case atStart => exact ⟨i, dk, rfl, by omega, Nat.le_refl _, Nat.le_refl _, hsk, S1, ⟨rfl⟩⟩
      case round =>
        clear S1
        obtain ⟨j, dj, rfl, haj, hji, hg2, hsj, SJ, HI⟩ := hrel
        have OUT : Aside0 ((j ≤ a ∨ (ltOf cf) dj[j]! dj[j - 1]! = false) → insOuter (ltOf cf) a b (i + 1) dj = insOuter (ltOf cf) a b (a + 1) d) := ⟨fun hs => by
          rw [← HO.out, insOuter_go _ _ _ _ _ hlt, ← HI.out, ins_stop _ _ _ _ hs]⟩
        by_cases hja : a < j
        · obtain ⟨q, hq⟩ : ∃ q, q = j - 1 := ⟨_, rfl⟩
          have e1 : decide ((j : Int) > (a : Int)) = true := decide_eq_true (by omega)
          have e2 : IntKind.i64.wrap ((j : Int) - 1) = (q : Int) := by rw [IntKind.wrap_i64]; omega
          have z2 : (j : Int) - 1 = (q : Int) := by omega
          have e4 : IntKind.i64.wrap (q : Int) = (q : Int) := by rw [IntKind.wrap_i64]; omega
          have b1 : (j : Int) < (n : Int) := by omega
          have b2 : (q : Int) < (n : Int) := by omega
          have HV := Aside0.mk (show ltOf cf dj[j]! dj[j - 1]! = decide (cf dj[j]! dj[q]! < 0) by rw [hq]; rfl)
          have l1 := SJ.out.ld E.out P j (by omega)
          have l2 := SJ.out.ld E.out P q (by omega)
          have hc := HC.out.at hsj SJ.out dj[j]! dj[q]!
          have SSW := Aside0.mk (show ∀ W2, SB enc k w0 g rest dj W2 → SB enc k w0 g rest (swp dj j q) ((W2.drew.setCells g (j * k) (enc dj[q]!)).setCells g (q * k) (enc dj[j]!)) from fun W2 h => h.drew.swap E.out j q (by omega) (by omega))
          have SLD := Aside0.mk (show ∀ W2, SB enc k w0 g rest dj W2 → Sem.run P (loadCellsFrom ⟨g, j * k, none⟩ 0 k #[]) W2.drew = .ok (enc dj[j]!).toArray W2.drew ∧ Sem.run P (loadCellsFrom ⟨g, q * k, none⟩ 0 k #[]) W2.drew = .ok (enc dj[q]!).toArray W2.drew ∧
            Sem.run P (storeCells ⟨g, j * k, none⟩ (enc dj[q]!) 0) W2.drew = .ok () (W2.drew.setCells g (j * k) (enc dj[q]!)) ∧ Sem.run P (storeCells ⟨g, q * k, none⟩ (enc dj[j]!) 0) (W2.drew.setCells g (j * k) (enc dj[q]!)) = .ok () ((W2.drew.setCells g (j * k) (enc dj[q]!)).setCells g (q * k) (enc dj[j]!))
            from fun W2 h => ⟨h.drew.load E.out P j (by omega), h.drew.load E.out P q (by omega), h.drew.st1 E.out P j (by omega) _, h.drew.st2 E.out P j q (by omega) (by omega) _ _⟩)
          have hsP := E.out.len dj[j]!
          have hsQ := E.out.len dj[q]!
          have HQ := Aside0.mk hq
          clear hq
          generalize cf dj[j]! dj[q]! = z at hc HV
          generalize enc dj[j]! = x at *
          generalize enc dj[q]! = y at *
          by_cases hz : z < 0
          · have e3 : decide (z < 0) = true := decide_eq_true hz
            have HV := Aside0.mk (HV.out.trans e3)
            go_wp2_with fail
            refine wp_region_quiet_below mixed (by kernel_rfl) ?_
            repeat (quiet_step (refine hc _ _))
            refine wpQuiet_nil ?_
            intro _ hw'
            obtain ⟨⟨nq, osq⟩, hw''⟩ := hw'
            subst hw''
            have S2 := Aside0.mk (SJ.out.below (below_regrown wr nq osq))
            clear l1 l2 hc SJ
            generalize grow (redrawn wr nq) osq = W2 at S2 ⊢
            go_wp2_with fail
            obtain ⟨l1, l2, s1, s2⟩ := SLD.out W2 S2.out
            have S3 := Aside0.mk (SSW.out W2 S2.out)
            clear S2 SLD SSW
            go_big_region_o
            clear l1 l2 s1 s2
            generalize ((W2.drew.setCells g (j * k) y).setCells g (q * k) x) = W3 at S3 ⊢
            go_wp2_with fail
            go_roundg (j - 1)
            case measure => omega
            case rel => exact ⟨j - 1, swp dj j q, by first | rfl | go_num | (congr 1; omega), by omega, by omega, Nat.le_refl _, by rw [size_swp]; exact hsj, S3, ⟨by rw [← HI.out, ins_go (ltOf cf) a j dj hja HV.out, HQ.out]⟩⟩
          · have e3 : decide (z < 0) = false := decide_eq_false hz
            have HV := Aside0.mk (HV.out.trans e3)
            clear SSW SLD
            go_wp2_with fail
            refine wp_region_quiet_below mixed (by kernel_rfl) ?_
            repeat (quiet_step (refine hc _ _))
            refine wpQuiet_nil ?_
            intro _ hw'
            obtain ⟨⟨nq, osq⟩, hw''⟩ := hw'
            subst hw''
            have S2 := Aside0.mk (SJ.out.below (below_regrown wr nq osq))
            clear l1 l2 hc SJ
            generalize grow (redrawn wr nq) osq = W2 at S2 ⊢
            go_wp2_with fail
            go_roundg (b - (i + 1))
            case measure => omega
            case rel => exact ⟨i + 1, dj, by go_num, by omega, by omega, by omega, hsj, S2, ⟨OUT.out (Or.inr HV.out)⟩⟩
        · have e1 : decide ((j : Int) > (a : Int)) = false := decide_eq_false (by omega)
          have S2 := Aside0.mk SJ.out.drew
          go_wp2_with fail
          go_big_region_o
          clear SJ
          generalize wr.drew = W2 at S2 ⊢
          go_wp2_with fail
          go_roundg (b - (i + 1))
          case measure => omega
          case rel => exact ⟨i + 1, dj, by go_num, by omega, by omega, by omega, hsj, S2, ⟨OUT.out (Or.inl (by omega))⟩⟩
    · have hltz : decide ((i : Int) < (b : Int)) = false := decide_eq_false (by omega)
      go_wp2_with fail
      go_end0
      refine ⟨rfl, ?_⟩
      unfold insertionSort
      rw [← HO.out, insOuter_stop _ _ _ _ _ hlt]
      exact S1.out

set_option maxHeartbeats 8000000 in
set_option maxRecDepth 100000 in
theorem rotate_walk (L : SymL P) (zE : ∀ w, (Go.sizeOf 24).run P w = .ok k w) (E : EncK enc k) (cap a m b n : Nat) (cv : Value) (d : Array α) (W : World) (hn : d.size = n) (S : SB enc k w0 g rest d W) (ham : a < m) (hmb : m < b) (hb : b ≤ n) (hsz : n < 4611686018427387904) :
    Calls P 81 #[.slice (some ⟨g, 0, none⟩) n cap, .int .i64 a, .int .i64 m, .int .i64 b, cv] W fun e w' => e = .returned (.tuple #[]) ∧ SB enc k w0 g rest (rot d a m b) w' := by
  have mixed := L.mixed; have t0 := L.t0; have a0 := L.a0; have z0 := L.z0; have v0 := L.v0; have t3 := L.t3; have a3 := L.a3; have z3 := L.z3; have v3 := L.v3; have t4 := L.t4; have a4 := L.a4; have z4 := L.z4; have v4 := L.v4; have t40 := L.t40; have a40 := L.a40; have z40 := L.z40; have v40 := L.v40; have t85 := L.t85; have a85 := L.a85; have z85 := L.z85; have v85 := L.v85
  have F := L.f81
  have eS : ∀ args w, (callFunc 88 args).run P w = .ok (.enter 88 args) w := fun args w => enters_of L.f88 rfl rfl args w
  have SR := Aside0.mk (fun (a b n : Nat) (d : Array α) (W : World) S => swapRange_walk (w0 := w0) (rest := rest) (g := g) L zE E cap a b n cv d W S)
  clear L
  have S0 := Aside0.mk S
  clear S
  go_enter F, Try.ntmps81
  go_wp2_with fail
  go_loopg [10, 11] (b - a) (fun kk v10 v11 wr => ∃ (i j : Nat) (dk : Array α), v10 = .int .i64 i ∧ v11 = .int .i64 j ∧ 1 ≤ i ∧ 1 ≤ j ∧ i + j ≤ kk ∧ i ≤ m ∧ m + j ≤ n ∧ dk.size = n ∧ Aside0 (SB enc k w0 g rest dk wr) ∧ Aside0 (rot dk (m - i) m (m + j) = rot d a m b))
  case atStart => exact ⟨m - a, b - m, d, by go_num, by go_num, by omega, by omega, by omega, by omega, by omega, hn, S0, ⟨by rw [show m - (m - a) = a by omega, show m + (b - m) = b by omega]⟩⟩
  case round =>
    clear S0
    obtain ⟨i, j, dk, rfl, rfl, hi, hj, hk, him, hjn, hsk, S1, HR⟩ := hrel
    have e4 : IntKind.i64.wrap ((m : Int) - (i : Int)) = ((m - i : Nat) : Int) := by rw [IntKind.wrap_i64]; omega
    have z4' : (m : Int) - (i : Int) = ((m - i : Nat) : Int) := by omega
    by_cases hij : i = j
    · subst hij
      have e1 : ((i : Int) != (i : Int)) = false := by simp
      have hs := Aside0.mk (SR.out (m - i) m i dk wr S1.out (by omega) (by omega) (by omega))
      rw [rot_step_eq dk m i him (by omega), HR.out, hsk] at hs
      clear HR S1
      go_wp2_with fail
      refine hs.out.mono ?_
      rintro e w' ⟨rfl, S2⟩
      replace S2 := Aside0.mk S2
      go_wp2_with fail
      go_end0
      exact ⟨rfl, S2.out⟩
    · have e1 : ((i : Int) != (j : Int)) = true := by simpa using (fun h => hij (by omega))
      by_cases hgt : j < i
      · have e2 : decide ((i : Int) > (j : Int)) = true := decide_eq_true (by omega)
        have hs := Aside0.mk (SR.out (m - i) m j dk wr S1.out (by omega) (by omega) (by omega))
        rw [hsk] at hs
        have HR2 := Aside0.mk (rot_step_gt dk m i j him (by omega) hgt)
        clear S1
        go_wp2_with fail
        refine hs.out.mono ?_
        rintro e w' ⟨rfl, S2⟩
        replace S2 := Aside0.mk S2
        go_wp2_with fail
        go_roundg (i - j + j)
        case measure => omega
        case rel => exact ⟨i - j, j, swapR dk (m - i) m j, by go_num, rfl, by omega, hj, by omega, by omega, hjn, by simpa using hsk, S2, ⟨by rw [HR2.out]; exact HR.out⟩⟩
      · have e2 : decide ((i : Int) > (j : Int)) = false := decide_eq_false (by omega)
        have e5 : IntKind.i64.wrap ((m : Int) + (j : Int)) = ((m + j : Nat) : Int) := by rw [IntKind.wrap_i64]; omega
        have e6 : IntKind.i64.wrap (((m + j : Nat) : Int) - (i : Int)) = ((m + j - i : Nat) : Int) := by rw [IntKind.wrap_i64]; omega
        have hs := Aside0.mk (SR.out (m - i) (m + j - i) i dk wr S1.out (by omega) (by omega) (by omega))
        rw [hsk] at hs
        have HR2 := Aside0.mk (rot_step_lt dk m i j him (by omega) (by omega))
        obtain ⟨q, hq⟩ : ∃ q, q = m + j := ⟨_, rfl⟩
        obtain ⟨p, hp⟩ : ∃ p, p = q - i := ⟨_, rfl⟩
        rw [← hq, ← hp] at e6 hs
        rw [← hq] at e5
        have z5 : (m : Int) + (j : Int) = (q : Int) := by omega
        have z6 : (q : Int) - (i : Int) = (p : Int) := by omega
        have HP := Aside0.mk (show p = m + j - i by omega)
        have HQ := Aside0.mk hq
        clear S1 hp hq
        go_wp2_with fail
        refine hs.out.mono ?_
        rintro e w' ⟨rfl, S2⟩
        replace S2 := Aside0.mk S2
        go_wp2_with fail
        go_roundg (i + (j - i))
        case measure => omega
        case rel => exact ⟨i, j - i, swapR dk (m - i) p i, rfl, by go_num, hi, by omega, by omega, him, by omega, by simpa using hsk, S2, ⟨by rw [HP.out, HR2.out]; exact HR.out⟩⟩
end Go.Proofs.Ytjladdjpnicldaa.PA
