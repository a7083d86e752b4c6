/- symMerge of slices.SortStableFunc, at a row of structs: it leaves what the plain symMerge leaves. Conditions: a < m < b, all in the row. -/
import Derived.Test.YtjladdjpnicldaaGSins
namespace Go.Proofs.Ytjladdjpnicldaa.PA
open Go.Sort Go.RowKit Go.Shelf Go.Lib Go.Proofs.YtjladdjpnicldaaW.PrintWords Go.Proofs.YtjladdjpnicldaaW.PrintLast Go.Proofs.YtjladdjpnicldaaW.PrintMore
variable {Pg : Program} {k : Nat} {α : Type} [Inhabited α] {enc : α → List Value} {w0 W : World} {g : Nat} {rest : List Value} {d : Array α}

theorem bs_yes (p : Nat → Bool) (i j : Nat) (h : i < j) (hp : p ((i + j) / 2) = true) : bs p i j = bs p ((i + j) / 2 + 1) j := by rw [bs, if_pos h, if_pos hp]
theorem bs_no (p : Nat → Bool) (i j : Nat) (h : i < j) (hp : p ((i + j) / 2) = false) : bs p i j = bs p i ((i + j) / 2) := by rw [bs, if_pos h, if_neg (by simp [hp])]
theorem bs_end (p : Nat → Bool) (i j : Nat) (h : ¬ i < j) : bs p i j = i := by rw [bs, if_neg h]
theorem bs_bounds (p : Nat → Bool) (n : Nat) : ∀ i j, j - i ≤ n → i ≤ j → i ≤ bs p i j ∧ bs p i j ≤ j := by
  induction n with
  | zero => intro i j h1 h2; rw [bs_end p i j (by omega)]; omega
  | succ n ih =>
    intro i j h1 h2
    by_cases h : i < j
    · cases hp : p ((i + j) / 2) with
      | true => rw [bs_yes p i j h hp]; have := ih ((i + j) / 2 + 1) j (by omega) (by omega); omega
      | false => rw [bs_no p i j h hp]; have := ih i ((i + j) / 2) (by omega) (by omega); omega
    · rw [bs_end p i j h]; omega

set_option maxHeartbeats 16000000 in
set_option maxRecDepth 100000 in
theorem sym_a (LS : SymL Pg) (zE : ∀ w, (Go.sizeOf 24).run Pg w = .ok k w) (E : EncK enc k) (cf : α → α → Int) (c : Nat) (eg : ∀ args w, (callFunc c args).run Pg w = .ok (.enter c args) w) (cap a m b n : Nat) (d : Array α) (W : World) (HC : CmpB Pg c enc k cf w0 g rest n) (hn : d.size = n) (S : SB enc k w0 g rest d W) (_ham : a < m) (hmb : m < b) (hb : b ≤ n) (hsz : n < 4611686018427387904) (hone : m = a + 1) :
    Calls Pg 67 #[.slice (some ⟨g, 0, none⟩) n cap, .int .i64 a, .int .i64 m, .int .i64 b, .func (.func c) #[] #[]] W fun e w' => e = .returned (.tuple #[]) ∧ SB enc k w0 g rest (rot d a (a + 1) (bs (fun h => ltOf cf d[h]! d[a]!) m b)) w' := by
  have S0 := Aside0.mk S
  have HC := Aside0.mk HC
  clear S
  have mixed := LS.mixed; have t0 := LS.t0; have a0 := LS.a0; have z0 := LS.z0; have v0 := LS.v0; have t3 := LS.t3; have a3 := LS.a3; have z3 := LS.z3; have v3 := LS.v3; have t4 := LS.t4; have a4 := LS.a4; have z4 := LS.z4; have v4 := LS.v4; have t40 := LS.t40; have a40 := LS.a40; have z40 := LS.z40; have v40 := LS.v40; have t85 := LS.t85; have a85 := LS.a85; have z85 := LS.z85; have v85 := LS.v85; have t121 := LS.t121; have a121 := LS.a121; have z121 := LS.z121; have v121 := LS.v121
  have u40 := run_underlying LS.t40
  have u121 := run_underlying LS.t121
  have u3 := run_underlying LS.t3
  have aE := LS.a24
  have F := LS.f67
  have eR : ∀ args w, (callFunc 81 args).run Pg w = .ok (.enter 81 args) w := fun args w => enters_of LS.f81 rfl rfl args w
  have eM : ∀ args w, (callFunc 67 args).run Pg w = .ok (.enter 67 args) w := fun args w => enters_of LS.f67 rfl rfl args w
  have LS := Aside0.mk LS
  have E := Aside0.mk E
  have e0 : (m : Int) - (a : Int) = 1 := by omega
  have e00 : IntKind.i64.wrap ((m : Int) - (a : Int)) = 1 := by rw [IntKind.wrap_i64]; omega
  obtain ⟨P, hP⟩ : ∃ P : Nat → Bool, P = fun h => ltOf cf d[h]! d[a]! := ⟨_, rfl⟩
  have HP := Aside0.mk (show ∀ h, P h = ltOf cf d[h]! d[a]! from fun h => by rw [hP])
  rw [← hP]
  obtain ⟨r, hr⟩ : ∃ r, r = bs P m b := ⟨_, rfl⟩
  have hrb := bs_bounds P b m b (by omega) (by omega)
  rw [← hr] at hrb
  have HR0 := Aside0.mk hr.symm
  rw [← hr]
  have HONE := Aside0.mk hone
  have ba : (a : Int) < (n : Int) := by omega
  have ham1 : a + 1 ≤ m := by omega
  have ham2 : m ≤ a + 1 := by omega
  clear hP hr hone
  go_enter F, Try.ntmps67
  go_wp2_with fail
  go_loopg [10, 11] (b - m) (fun kk v10 v11 wr => ∃ (i j : Nat), v10 = .int .i64 i ∧ v11 = .int .i64 j ∧ m ≤ i ∧ i ≤ j ∧ j ≤ b ∧ j - i ≤ kk ∧ Aside0 (SB enc k w0 g rest d wr) ∧ Aside0 (bs P i j = r))
  case atStart => exact ⟨m, b, rfl, rfl, Nat.le_refl _, by omega, Nat.le_refl _, by omega, S0, HR0⟩
  case round =>
    clear S0
    obtain ⟨i, j, rfl, rfl, hi1, hij, hj1, hk, S1, HR⟩ := hrel
    by_cases hlt : i < j
    · have e1 : decide ((i : Int) < (j : Int)) = true := decide_eq_true (by omega)
      obtain ⟨s, hs⟩ : ∃ s, s = i + j := ⟨_, rfl⟩
      obtain ⟨h, hh⟩ : ∃ h, h = s / 2 := ⟨_, rfl⟩
      have ew : IntKind.i64.wrap ((i : Int) + (j : Int)) = (s : Int) := by rw [IntKind.wrap_i64]; omega
      have zs : (i : Int) + (j : Int) = (s : Int) := by omega
      have eu : IntKind.u64.wrap (s : Int) = (s : Int) := by simp [IntKind.wrap, IntKind.bits, IntKind.signed]; omega
      have ed : (s : Int) / 2 = (h : Int) := by omega
      have ei : IntKind.i64.wrap (h : Int) = (h : Int) := by rw [IntKind.wrap_i64]; omega
      have HS := Aside0.mk (show (i + j) / 2 = h ∧ i ≤ h ∧ h < j by omega)
      have bh : (h : Int) < (n : Int) := by omega
      have hlo : i ≤ h := by omega
      have hhi : h < j := by omega
      clear hs hh
      have HV := Aside0.mk (show P ((i + j) / 2) = decide (cf d[h]! d[a]! < 0) by rw [HS.out.1, HP.out]; rfl)
      have l1 := S1.out.ld E.out Pg h (by omega)
      have l2 := S1.out.ld E.out Pg a (by omega)
      have hc := HC.out.at hn S1.out d[h]! d[a]!
      generalize cf d[h]! d[a]! = z at hc HV
      generalize enc d[h]! = x at *
      generalize enc d[a]! = y at *
      by_cases hz : z < 0
      · have e3 : decide (z < 0) = true := decide_eq_true hz
        have HV := Aside0.mk (HV.out.trans e3)
        go_wp2_with fail
        refine wp_region_quiet_below mixed (by kernel_rfl) ?_
        repeat (quiet_step (refine hc _ _))
        refine wpQuiet_nil ?_
        intro _ hw'
        obtain ⟨⟨nq, osq⟩, hw''⟩ := hw'
        subst hw''
        have S2 := Aside0.mk (S1.out.below (below_regrown wr nq osq))
        clear l1 l2 hc S1
        generalize grow (redrawn wr nq) osq = W2 at S2 ⊢
        go_wp2_with fail
        go_roundg (j - (h + 1))
        case measure => omega
        case rel => exact ⟨h + 1, j, by go_num, rfl, by omega, by omega, by omega, Nat.le_refl _, S2, ⟨by rw [← HR.out, bs_yes P i j hlt HV.out, HS.out.1]⟩⟩
      · have e3 : decide (z < 0) = false := decide_eq_false hz
        have HV := Aside0.mk (HV.out.trans e3)
        go_wp2_with fail
        refine wp_region_quiet_below mixed (by kernel_rfl) ?_
        repeat (quiet_step (refine hc _ _))
        refine wpQuiet_nil ?_
        intro _ hw'
        obtain ⟨⟨nq, osq⟩, hw''⟩ := hw'
        subst hw''
        have S2 := Aside0.mk (S1.out.below (below_regrown wr nq osq))
        clear l1 l2 hc S1
        generalize grow (redrawn wr nq) osq = W2 at S2 ⊢
        go_wp2_with fail
        go_roundg (h - i)
        case measure => omega
        case rel => exact ⟨i, h, rfl, by go_num, by omega, by omega, by omega, Nat.le_refl _, S2, ⟨by rw [← HR.out, bs_no P i j hlt HV.out, HS.out.1]⟩⟩
    · have e1 : decide ((i : Int) < (j : Int)) = false := decide_eq_false (by omega)
      obtain rfl : i = r := by rw [← HR.out, bs_end P i j hlt]
      have e5 : IntKind.i64.wrap ((i : Int) - 1) = ((i - 1 : Nat) : Int) := by rw [IntKind.wrap_i64]; omega
      have z5 : (i : Int) - 1 = ((i - 1 : Nat) : Int) := by omega
      obtain ⟨q, hq⟩ : ∃ q, q = i - 1 := ⟨_, rfl⟩
      rw [← hq] at e5 z5
      have e6 : IntKind.i64.wrap (q : Int) = (q : Int) := by rw [IntKind.wrap_i64]; omega
      have hqi : i = q + 1 := by omega
      have HQ := Aside0.mk hqi
      have hqa : a ≤ q := by omega
      have hqn : q < n := by omega
      clear hq hqi
      go_wp2_with fail
      go_loopg [13] (q - a) (fun kk v13 wr => ∃ (t : Nat) (dk : Array α), v13 = .int .i64 t ∧ a ≤ t ∧ t ≤ q ∧ q - t ≤ kk ∧ dk.size = n ∧ Aside0 (SB enc k w0 g rest dk wr) ∧ Aside0 (dk = rot d a (a + 1) (t + 1)))
      case atStart => exact ⟨a, d, rfl, by omega, by omega, by omega, hn, S1, ⟨(rot_right d a (a + 1) (by omega) (by omega)).symm⟩⟩
      case round =>
        clear S1
        obtain ⟨t, dk, rfl, hat, htq, hk2, hsk, S1, HD⟩ := hrel
        by_cases hlt2 : t < q
        · have e7 : decide ((t : Int) < (q : Int)) = true := decide_eq_true (by omega)
          obtain ⟨u1, hu1⟩ : ∃ u1, u1 = t + 1 := ⟨_, rfl⟩
          have e8 : IntKind.i64.wrap ((t : Int) + 1) = (u1 : Int) := by rw [IntKind.wrap_i64]; omega
          have z8 : (t : Int) + 1 = (u1 : Int) := by omega
          have e9 : IntKind.i64.wrap (u1 : Int) = (u1 : Int) := by rw [IntKind.wrap_i64]; omega
          have b1 : (t : Int) < (n : Int) := by omega
          have b2 : (u1 : Int) < (n : Int) := by omega
          have HU := Aside0.mk hu1
          have hu2 : u1 < n := by omega
          clear hu1
          have lp := S1.out.drew.load E.out Pg t (by omega)
          have lq := S1.out.drew.load E.out Pg u1 (by omega)
          have st1 := S1.out.drew.st1 E.out Pg t (by omega) dk[u1]!
          have st2 := S1.out.drew.st2 E.out Pg t u1 (by omega) (by omega) dk[u1]! dk[t]!
          have S3 := Aside0.mk (S1.out.drew.swap E.out t u1 (by omega) (by omega))
          have hsP := E.out.len dk[t]!
          have hsQ := E.out.len dk[u1]!
          generalize enc dk[t]! = x at *
          generalize enc dk[u1]! = y at *
          clear S1
          go_wp2_with fail
          go_big_region_o
          clear lp lq st1 st2 hsP hsQ
          generalize ((wr.drew.setCells g (t * k) y).setCells g (u1 * k) x) = W3 at S3 ⊢
          go_wp2_with fail
          go_roundg (q - (t + 1))
          case measure => omega
          case rel => exact ⟨t + 1, swp dk t u1, by rw [← HU.out], by omega, by omega, by omega, by rw [size_swp]; exact hsk, S3, ⟨by rw [HD.out, HU.out, rot_up d a t hat (by have := HU.out; omega)]⟩⟩
        · have e7 : decide ((t : Int) < (q : Int)) = false := decide_eq_false (by omega)
          obtain rfl : t = q := by omega
          go_wp2_with fail
          refine bodyPost_ret (results_none rfl _ _ _) rfl ⟨rfl, ?_⟩
          rw [HQ.out, ← HD.out]
          exact S1.out

set_option maxHeartbeats 16000000 in
set_option maxRecDepth 100000 in
theorem sym_b (LS : SymL Pg) (zE : ∀ w, (Go.sizeOf 24).run Pg w = .ok k w) (E : EncK enc k) (cf : α → α → Int) (c : Nat) (eg : ∀ args w, (callFunc c args).run Pg w = .ok (.enter c args) w) (cap a m b n : Nat) (d : Array α) (W : World) (HC : CmpB Pg c enc k cf w0 g rest n) (hn : d.size = n) (S : SB enc k w0 g rest d W) (ham : a < m) (_hmb : m < b) (hb : b ≤ n) (hsz : n < 4611686018427387904) (hone : ¬ m = a + 1) (hb1 : b = m + 1) :
    Calls Pg 67 #[.slice (some ⟨g, 0, none⟩) n cap, .int .i64 a, .int .i64 m, .int .i64 b, .func (.func c) #[] #[]] W fun e w' => e = .returned (.tuple #[]) ∧ SB enc k w0 g rest (rot d (bs (fun h => !ltOf cf d[m]! d[h]!) a m) m (m + 1)) w' := by
  have S0 := Aside0.mk S
  have HC := Aside0.mk HC
  clear S
  have mixed := LS.mixed; have t0 := LS.t0; have a0 := LS.a0; have z0 := LS.z0; have v0 := LS.v0; have t3 := LS.t3; have a3 := LS.a3; have z3 := LS.z3; have v3 := LS.v3; have t4 := LS.t4; have a4 := LS.a4; have z4 := LS.z4; have v4 := LS.v4; have t40 := LS.t40; have a40 := LS.a40; have z40 := LS.z40; have v40 := LS.v40; have t85 := LS.t85; have a85 := LS.a85; have z85 := LS.z85; have v85 := LS.v85; have t121 := LS.t121; have a121 := LS.a121; have z121 := LS.z121; have v121 := LS.v121
  have u40 := run_underlying LS.t40
  have u121 := run_underlying LS.t121
  have u3 := run_underlying LS.t3
  have aE := LS.a24
  have F := LS.f67
  have eR : ∀ args w, (callFunc 81 args).run Pg w = .ok (.enter 81 args) w := fun args w => enters_of LS.f81 rfl rfl args w
  have eM : ∀ args w, (callFunc 67 args).run Pg w = .ok (.enter 67 args) w := fun args w => enters_of LS.f67 rfl rfl args w
  have LS := Aside0.mk LS
  have E := Aside0.mk E
  have e00 : IntKind.i64.wrap ((m : Int) - (a : Int)) = (m : Int) - (a : Int) := by rw [IntKind.wrap_i64]; omega
  have e0 : ((m : Int) - (a : Int) == 1) = false := beq_eq_false_iff_ne.2 (by omega)
  have e02 : IntKind.i64.wrap ((b : Int) - (m : Int)) = 1 := by rw [IntKind.wrap_i64]; omega
  have e03 : (b : Int) - (m : Int) = 1 := by omega
  obtain ⟨P, hP⟩ : ∃ P : Nat → Bool, P = fun h => !ltOf cf d[m]! d[h]! := ⟨_, rfl⟩
  have HP := Aside0.mk (show ∀ h, P h = !ltOf cf d[m]! d[h]! from fun h => by rw [hP])
  rw [← hP]
  obtain ⟨r, hr⟩ : ∃ r, r = bs P a m := ⟨_, rfl⟩
  have hrb := bs_bounds P m a m (by omega) (by omega)
  rw [← hr] at hrb
  have HR0 := Aside0.mk hr.symm
  rw [← hr]
  have HONE := Aside0.mk hone
  have bm : (m : Int) < (n : Int) := by omega
  have HB1 := Aside0.mk hb1
  have hmn : m < n := by omega
  clear hP hr hone hb1
  go_enter F, Try.ntmps67
  go_wp2_with fail
  go_loopg [14, 15] (m - a) (fun kk v10 v11 wr => ∃ (i j : Nat), v10 = .int .i64 i ∧ v11 = .int .i64 j ∧ a ≤ i ∧ i ≤ j ∧ j ≤ m ∧ j - i ≤ kk ∧ Aside0 (SB enc k w0 g rest d wr) ∧ Aside0 (bs P i j = r))
  case atStart => exact ⟨a, m, rfl, rfl, Nat.le_refl _, by omega, Nat.le_refl _, by omega, S0, HR0⟩
  case round =>
    clear S0
    obtain ⟨i, j, rfl, rfl, hi1, hij, hj1, hk, S1, HR⟩ := hrel
    by_cases hlt : i < j
    · have e1 : decide ((i : Int) < (j : Int)) = true := decide_eq_true (by omega)
      obtain ⟨s, hs⟩ : ∃ s, s = i + j := ⟨_, rfl⟩
      obtain ⟨h, hh⟩ : ∃ h, h = s / 2 := ⟨_, rfl⟩
      have ew : IntKind.i64.wrap ((i : Int) + (j : Int)) = (s : Int) := by rw [IntKind.wrap_i64]; omega
      have zs : (i : Int) + (j : Int) = (s : Int) := by omega
      have eu : IntKind.u64.wrap (s : Int) = (s : Int) := by simp [IntKind.wrap, IntKind.bits, IntKind.signed]; omega
      have ed : (s : Int) / 2 = (h : Int) := by omega
      have ei : IntKind.i64.wrap (h : Int) = (h : Int) := by rw [IntKind.wrap_i64]; omega
      have HS := Aside0.mk (show (i + j) / 2 = h ∧ i ≤ h ∧ h < j by omega)
      have bh : (h : Int) < (n : Int) := by omega
      have hlo : i ≤ h := by omega
      have hhi : h < j := by omega
      clear hs hh
      have HV := Aside0.mk (show P ((i + j) / 2) = !decide (cf d[m]! d[h]! < 0) by rw [HS.out.1, HP.out]; rfl)
      have l1 := S1.out.ld E.out Pg m (by omega)
      have l2 := S1.out.ld E.out Pg h (by omega)
      have hc := HC.out.at hn S1.out d[m]! d[h]!
      generalize cf d[m]! d[h]! = z at hc HV
      generalize enc d[m]! = x at *
      generalize enc d[h]! = y at *
      by_cases hz : z < 0
      · have e3 : decide (z < 0) = true := decide_eq_true hz
        have HV := Aside0.mk (HV.out.trans (by rw [e3]))
        go_wp2_with fail
        refine wp_region_quiet_below mixed (by kernel_rfl) ?_
        repeat (quiet_step (refine hc _ _))
        refine wpQuiet_nil ?_
        intro _ hw'
        obtain ⟨⟨nq, osq⟩, hw''⟩ := hw'
        subst hw''
        have S2 := Aside0.mk (S1.out.below (below_regrown wr nq osq))
        clear l1 l2 hc S1
        generalize grow (redrawn wr nq) osq = W2 at S2 ⊢
        go_wp2_with fail
        go_roundg (h - i)
        case measure => omega
        case rel => exact ⟨i, h, rfl, by go_num, by omega, by omega, by omega, Nat.le_refl _, S2, ⟨by rw [← HR.out, bs_no P i j hlt HV.out, HS.out.1]⟩⟩
      · have e3 : decide (z < 0) = false := decide_eq_false hz
        have HV := Aside0.mk (HV.out.trans (by rw [e3]))
        go_wp2_with fail
        refine wp_region_quiet_below mixed (by kernel_rfl) ?_
        repeat (quiet_step (refine hc _ _))
        refine wpQuiet_nil ?_
        intro _ hw'
        obtain ⟨⟨nq, osq⟩, hw''⟩ := hw'
        subst hw''
        have S2 := Aside0.mk (S1.out.below (below_regrown wr nq osq))
        clear l1 l2 hc S1
        generalize grow (redrawn wr nq) osq = W2 at S2 ⊢
        go_wp2_with fail
        go_roundg (j - (h + 1))
        case measure => omega
        case rel => exact ⟨h + 1, j, by go_num, rfl, by omega, by omega, by omega, Nat.le_refl _, S2, ⟨by rw [← HR.out, bs_yes P i j hlt HV.out, HS.out.1]⟩⟩
    · have e1 : decide ((i : Int) < (j : Int)) = false := decide_eq_false (by omega)
      obtain rfl : i = r := by rw [← HR.out, bs_end P i j hlt]
      go_wp2_with fail
      go_loopg [17] (m - i) (fun kk v17 wr => ∃ (t : Nat) (dk : Array α), v17 = .int .i64 t ∧ i ≤ t ∧ t ≤ m ∧ t - i ≤ kk ∧ dk.size = n ∧ Aside0 (SB enc k w0 g rest dk wr) ∧ Aside0 (dk = rot d t m (m + 1)))
      case atStart => exact ⟨m, d, rfl, by omega, by omega, by omega, hn, S1, ⟨(rot_left d m (m + 1) (by omega) (by omega)).symm⟩⟩
      case round =>
        clear S1
        obtain ⟨t, dk, rfl, hit, htm, hk2, hsk, S1, HD⟩ := hrel
        by_cases hlt2 : i < t
        · have e7 : decide ((t : Int) > (i : Int)) = true := decide_eq_true (by omega)
          obtain ⟨u1, hu1⟩ : ∃ u1, u1 = t - 1 := ⟨_, rfl⟩
          have e8 : IntKind.i64.wrap ((t : Int) - 1) = (u1 : Int) := by rw [IntKind.wrap_i64]; omega
          have z8 : (t : Int) - 1 = (u1 : Int) := by omega
          have e9 : IntKind.i64.wrap (u1 : Int) = (u1 : Int) := by rw [IntKind.wrap_i64]; omega
          have b1 : (t : Int) < (n : Int) := by omega
          have b2 : (u1 : Int) < (n : Int) := by omega
          have HU := Aside0.mk hu1
          have hu2 : u1 < n := by omega
          clear hu1
          have lp := S1.out.drew.load E.out Pg t (by omega)
          have lq := S1.out.drew.load E.out Pg u1 (by omega)
          have st1 := S1.out.drew.st1 E.out Pg t (by omega) dk[u1]!
          have st2 := S1.out.drew.st2 E.out Pg t u1 (by omega) (by omega) dk[u1]! dk[t]!
          have S3 := Aside0.mk (S1.out.drew.swap E.out t u1 (by omega) (by omega))
          have hsP := E.out.len dk[t]!
          have hsQ := E.out.len dk[u1]!
          generalize enc dk[t]! = x at *
          generalize enc dk[u1]! = y at *
          clear S1
          go_wp2_with fail
          go_big_region_o
          clear lp lq st1 st2 hsP hsQ
          generalize ((wr.drew.setCells g (t * k) y).setCells g (u1 * k) x) = W3 at S3 ⊢
          go_wp2_with fail
          go_roundg (t - 1 - i)
          case measure => omega
          case rel => exact ⟨t - 1, swp dk t u1, by rw [← HU.out], by omega, by omega, by omega, by rw [size_swp]; exact hsk, S3, ⟨by rw [HD.out, HU.out, rot_down d t m (by omega) htm (by omega)]⟩⟩
        · have e7 : decide ((t : Int) > (i : Int)) = false := decide_eq_false (by omega)
          obtain rfl : t = i := by omega
          go_wp2_with fail
          refine bodyPost_ret (results_none rfl _ _ _) rfl ⟨rfl, ?_⟩
          rw [← HD.out]
          exact S1.out
end Go.Proofs.Ytjladdjpnicldaa.PA
