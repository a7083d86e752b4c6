/- symMerge of slices.SortStableFunc, at a row of structs: the part behind the two short ones: it leaves what the plain symMerge leaves. Conditions: a < m < b, all in the row. -/
import Derived.Test.YtjladdjpnicldaaGSym
namespace Go.Proofs.Ytjladdjpnicldaa.PA
open Go.Sort Go.RowKit Go.Shelf Go.Lib Go.Proofs.YtjladdjpnicldaaW.PrintWords Go.Proofs.YtjladdjpnicldaaW.PrintLast Go.Proofs.YtjladdjpnicldaaW.PrintMore
variable {Pg : Program} {k : Nat} {α : Type} [Inhabited α] {enc : α → List Value} {w0 W : World} {g : Nat} {rest : List Value} {d : Array α}


theorem size_symMerge (lt : α → α → Bool) (f : Nat) : ∀ (d : Array α) (a m b : Nat), (symMerge lt f d a m b).size = d.size := by
  induction f with
  | zero => intro d a m b; rfl
  | succ f ih =>
    intro d a m b
    rw [symMerge]
    split
    · simp
    · split
      · simp
      · dsimp only
        (repeat' split) <;> simp [ih]

theorem sym_eq (lt : α → α → Bool) (f : Nat) (d : Array α) (a m b mid N s e : Nat) (hone : ¬ m - a = 1) (hb1 : ¬ b - m = 1) (hmid : mid = (a + b) / 2) (hN : N = mid + m)
    (hs : s = if mid < m then bs (fun c => !lt d[N - 1 - c]! d[c]!) (N - b) mid else bs (fun c => !lt d[N - 1 - c]! d[c]!) a m) (he : e = N - s) :
    symMerge lt (f + 1) d a m b = (if mid < e ∧ e < b then symMerge lt f (if a < s ∧ s < mid then symMerge lt f (if s < m ∧ m < e then rot d s m e else d) a s mid else (if s < m ∧ m < e then rot d s m e else d)) mid e b
      else (if a < s ∧ s < mid then symMerge lt f (if s < m ∧ m < e then rot d s m e else d) a s mid else (if s < m ∧ m < e then rot d s m e else d))) := by
  subst hmid hN he hs
  rw [symMerge, if_neg hone, if_neg hb1]

set_option maxHeartbeats 16000000 in
set_option maxRecDepth 100000 in
theorem sym_c1 (LS : SymL Pg) (zE : ∀ w, (Go.sizeOf 24).run Pg w = .ok k w) (E : EncK enc k) (cf : α → α → Int) (c : Nat) (eg : ∀ args w, (callFunc c args).run Pg w = .ok (.enter c args) w) (cap a m b n : Nat) (d : Array α) (W : World) (HC : CmpB Pg c enc k cf w0 g rest n) (hn : d.size = n) (S : SB enc k w0 g rest d W) (ham : a < m) (hmb : m < b) (hb : b ≤ n) (hsz : n < 4611686018427387904) (f : Nat) (hf : b - a ≤ f + 1) (hside : (a + b) / 2 < m) (hone : ¬ m = a + 1) (hb1 : ¬ b = m + 1)
    (IH : ∀ (a' m' b' : Nat) (d' : Array α) (W' : World), b' - a' ≤ f → a' < m' → m' < b' → b' ≤ n → d'.size = n → SB enc k w0 g rest d' W' →
      Calls Pg 67 #[.slice (some ⟨g, 0, none⟩) n cap, .int .i64 a', .int .i64 m', .int .i64 b', .func (.func c) #[] #[]] W' fun e w' => e = .returned (.tuple #[]) ∧ SB enc k w0 g rest (symMerge (ltOf cf) f d' a' m' b') w') :
    Calls Pg 67 #[.slice (some ⟨g, 0, none⟩) n cap, .int .i64 a, .int .i64 m, .int .i64 b, .func (.func c) #[] #[]] W fun e w' => e = .returned (.tuple #[]) ∧ SB enc k w0 g rest (symMerge (ltOf cf) (f + 1) d a m b) w' := by
  have S0 := Aside0.mk S
  have HC := Aside0.mk HC
  clear S
  have mixed := LS.mixed; have t0 := LS.t0; have a0 := LS.a0; have z0 := LS.z0; have v0 := LS.v0; have t3 := LS.t3; have a3 := LS.a3; have z3 := LS.z3; have v3 := LS.v3; have t4 := LS.t4; have a4 := LS.a4; have z4 := LS.z4; have v4 := LS.v4; have t40 := LS.t40; have a40 := LS.a40; have z40 := LS.z40; have v40 := LS.v40; have t85 := LS.t85; have a85 := LS.a85; have z85 := LS.z85; have v85 := LS.v85; have t121 := LS.t121; have a121 := LS.a121; have z121 := LS.z121; have v121 := LS.v121
  have u40 := run_underlying LS.t40
  have u121 := run_underlying LS.t121
  have u3 := run_underlying LS.t3
  have aE := LS.a24
  have F := LS.f67
  have eR : ∀ args w, (callFunc 81 args).run Pg w = .ok (.enter 81 args) w := fun args w => enters_of LS.f81 rfl rfl args w
  have eM : ∀ args w, (callFunc 67 args).run Pg w = .ok (.enter 67 args) w := fun args w => enters_of LS.f67 rfl rfl args w
  have LS := Aside0.mk LS
  have E := Aside0.mk E
  have IH := Aside0.mk IH
  have HX := Aside0.mk (sym_eq (ltOf cf) f d a m b ((a + b) / 2) ((a + b) / 2 + m) _ _ (by omega) (by omega) rfl rfl rfl rfl)
  have e00 : IntKind.i64.wrap ((m : Int) - (a : Int)) = (m : Int) - (a : Int) := by rw [IntKind.wrap_i64]; omega
  have e0 : ((m : Int) - (a : Int) == 1) = false := beq_eq_false_iff_ne.2 (by omega)
  have e02 : IntKind.i64.wrap ((b : Int) - (m : Int)) = (b : Int) - (m : Int) := by rw [IntKind.wrap_i64]; omega
  have e03 : ((b : Int) - (m : Int) == 1) = false := beq_eq_false_iff_ne.2 (by omega)
  obtain ⟨t0, ht0⟩ : ∃ t0, t0 = a + b := ⟨_, rfl⟩
  obtain ⟨mid, hmid⟩ : ∃ mid, mid = t0 / 2 := ⟨_, rfl⟩
  obtain ⟨N, hN⟩ : ∃ N, N = mid + m := ⟨_, rfl⟩
  rw [← ht0, ← hmid, ← hN] at HX
  have ew0 : IntKind.i64.wrap ((a : Int) + (b : Int)) = (t0 : Int) := by rw [IntKind.wrap_i64]; omega
  have zs0 : (a : Int) + (b : Int) = (t0 : Int) := by omega
  have eu0 : IntKind.u64.wrap (t0 : Int) = (t0 : Int) := by simp [IntKind.wrap, IntKind.bits, IntKind.signed]; omega
  have ed0 : (t0 : Int) / 2 = (mid : Int) := by omega
  have ei0 : IntKind.i64.wrap (mid : Int) = (mid : Int) := by rw [IntKind.wrap_i64]; omega
  have ew1 : IntKind.i64.wrap ((mid : Int) + (m : Int)) = (N : Int) := by rw [IntKind.wrap_i64]; omega
  have zs1 : (mid : Int) + (m : Int) = (N : Int) := by omega
  obtain ⟨p, hp⟩ : ∃ p, p = N - 1 := ⟨_, rfl⟩
  have ew2 : IntKind.i64.wrap ((N : Int) - 1) = (p : Int) := by rw [IntKind.wrap_i64]; omega
  have zs2 : (N : Int) - 1 = (p : Int) := by omega
  obtain ⟨P, hP⟩ : ∃ P : Nat → Bool, P = fun c => !ltOf cf d[N - 1 - c]! d[c]! := ⟨_, rfl⟩
  have HP := Aside0.mk (show ∀ c, P c = !ltOf cf d[p - c]! d[c]! from fun c => by rw [hP, hp])
  rw [← hP] at HX
  have l1 : N = mid + m := hN
  have l2 : 2 * mid ≤ a + b := by omega
  have l3 : a + b ≤ 2 * mid + 1 := by omega
  have l4 : p + 1 = N := by omega
  have LL := Aside0.mk (show N = mid + m ∧ 2 * mid ≤ a + b ∧ a + b ≤ 2 * mid + 1 ∧ p + 1 = N ∧ ¬ m = a + 1 ∧ ¬ b = m + 1 from ⟨l1, l2, l3, l4, hone, hb1⟩)
  clear hP hp hN hmid ht0 hone hb1
  have hside' : mid < m := by omega
  rw [if_pos hside'] at HX
  obtain ⟨L, hL⟩ : ∃ L, L = N - b := ⟨_, rfl⟩
  have eL : IntKind.i64.wrap ((N : Int) - (b : Int)) = (L : Int) := by rw [IntKind.wrap_i64]; omega
  have zL : (N : Int) - (b : Int) = (L : Int) := by omega
  have LB := Aside0.mk (show L + b = N by omega)
  have eMM : decide ((m : Int) > (mid : Int)) = true := decide_eq_true (by omega)
  rw [← hL] at HX
  have hL2 : L + b = N := by omega
  clear hL
  obtain ⟨r, hr⟩ : ∃ r, r = bs P L mid := ⟨_, rfl⟩
  have hrb := bs_bounds P n L mid (by omega) (by omega)
  rw [← hr] at hrb HX
  have HR0 := Aside0.mk hr.symm
  clear hr hside l1 l2 l3 l4
  go_enter F, Try.ntmps67
  go_wp2_with fail
  go_loopg [20, 21] n (fun kk v10 v11 wr => ∃ (i j : Nat), v10 = .int .i64 i ∧ v11 = .int .i64 j ∧ L ≤ i ∧ i ≤ j ∧ j ≤ mid ∧ j - i ≤ kk ∧ Aside0 (SB enc k w0 g rest d wr) ∧ Aside0 (bs P i j = r))
  case atStart => exact ⟨L, mid, rfl, rfl, Nat.le_refl _, by have := LL.out; omega, Nat.le_refl _, by have := LL.out; omega, S0, HR0⟩
  case round =>
    clear S0
    obtain ⟨i, j, rfl, rfl, hi1, hij, hj1, hk, S1, HR⟩ := hrel
    by_cases hlt : i < j
    · have e1 : decide ((i : Int) < (j : Int)) = true := decide_eq_true (by omega)
      obtain ⟨s, hs⟩ : ∃ s, s = i + j := ⟨_, rfl⟩
      obtain ⟨h, hh⟩ : ∃ h, h = s / 2 := ⟨_, rfl⟩
      have ew : IntKind.i64.wrap ((i : Int) + (j : Int)) = (s : Int) := by have := LL.out; rw [IntKind.wrap_i64]; omega
      have zs : (i : Int) + (j : Int) = (s : Int) := by omega
      have eu : IntKind.u64.wrap (s : Int) = (s : Int) := by have := LL.out; simp [IntKind.wrap, IntKind.bits, IntKind.signed]; omega
      have ed : (s : Int) / 2 = (h : Int) := by omega
      have ei : IntKind.i64.wrap (h : Int) = (h : Int) := by have := LL.out; rw [IntKind.wrap_i64]; omega
      have HS := Aside0.mk (show (i + j) / 2 = h ∧ i ≤ h ∧ h < j by omega)
      have bh : (h : Int) < (n : Int) := by have := LL.out; omega
      have hlo : i ≤ h := by omega
      have hhi : h < j := by omega
      clear hs hh
      obtain ⟨q, hq⟩ : ∃ q, q = p - h := ⟨_, rfl⟩
      have hq2 : q + h = p := by have := LL.out; omega
      have eq : IntKind.i64.wrap ((p : Int) - (h : Int)) = (q : Int) := by have := LL.out; rw [IntKind.wrap_i64]; omega
      have zq : (p : Int) - (h : Int) = (q : Int) := by omega
      have ezq : IntKind.i64.wrap (q : Int) = (q : Int) := by rw [IntKind.wrap_i64]; have := LL.out; omega
      have hqn : q < n := by have := LL.out; omega
      have bq : (q : Int) < (n : Int) := by omega
      have HQ := Aside0.mk hq.symm
      clear hq hq2
      have HV := Aside0.mk (show P ((i + j) / 2) = !decide (cf d[q]! d[h]! < 0) by rw [HS.out.1, HP.out, HQ.out]; rfl)
      have l1 := S1.out.ld E.out Pg q (by have := LL.out; omega)
      have l2 := S1.out.ld E.out Pg h (by have := LL.out; omega)
      have hc := HC.out.at hn S1.out d[q]! d[h]!
      generalize cf d[q]! d[h]! = z at hc HV
      generalize enc d[q]! = x at *
      generalize enc d[h]! = y at *
      by_cases hz : z < 0
      · have e3 : decide (z < 0) = true := decide_eq_true hz
        have HV := Aside0.mk (HV.out.trans (by rw [e3]))
        go_wp2_with fail
        refine wp_region_quiet_below mixed (by kernel_rfl) ?_
        repeat (quiet_step (refine hc _ _))
        refine wpQuiet_nil ?_
        intro _ hw'
        obtain ⟨⟨nq, osq⟩, hw''⟩ := hw'
        subst hw''
        have S2 := Aside0.mk (S1.out.below (below_regrown wr nq osq))
        clear l1 l2 hc S1
        generalize grow (redrawn wr nq) osq = W2 at S2 ⊢
        go_wp2_with fail
        go_roundg (h - i)
        case measure => omega
        case rel => exact ⟨i, h, rfl, by go_num, by omega, by omega, by omega, Nat.le_refl _, S2, ⟨by rw [← HR.out, bs_no P i j hlt HV.out, HS.out.1]⟩⟩
      · have e3 : decide (z < 0) = false := decide_eq_false hz
        have HV := Aside0.mk (HV.out.trans (by rw [e3]))
        go_wp2_with fail
        refine wp_region_quiet_below mixed (by kernel_rfl) ?_
        repeat (quiet_step (refine hc _ _))
        refine wpQuiet_nil ?_
        intro _ hw'
        obtain ⟨⟨nq, osq⟩, hw''⟩ := hw'
        subst hw''
        have S2 := Aside0.mk (S1.out.below (below_regrown wr nq osq))
        clear l1 l2 hc S1
        generalize grow (redrawn wr nq) osq = W2 at S2 ⊢
        go_wp2_with fail
        go_roundg (j - (h + 1))
        case measure => omega
        case rel => exact ⟨h + 1, j, by go_num, rfl, by omega, by omega, by omega, Nat.le_refl _, S2, ⟨by rw [← HR.out, bs_yes P i j hlt HV.out, HS.out.1]⟩⟩
    · have e1 : decide ((i : Int) < (j : Int)) = false := decide_eq_false (by omega)
      obtain rfl : i = r := by rw [← HR.out, bs_end P i j hlt]
      clear HP HR0 HR
      obtain ⟨e, he⟩ : ∃ e, e = N - i := ⟨_, rfl⟩
      rw [← he] at HX
      have he2 : e + i = N := by have := LL.out; omega
      have ewe : IntKind.i64.wrap ((N : Int) - (i : Int)) = (e : Int) := by have := LL.out; rw [IntKind.wrap_i64]; omega
      have zse : (N : Int) - (i : Int) = (e : Int) := by omega
      have LE := Aside0.mk (show e + i = N ∧ i ≤ N by have := LL.out; omega)
      clear he he2
      have hei := LE.out.2
      clear hei
      by_cases q_sd : i < mid
      · by_cases q_as : a < i
        · by_cases q_eb : e < b
          · have t_sm : decide ((i : Int) < (m : Int)) = true := decide_eq_true (by have := LL.out; have := LE.out; omega)
            have t_me : decide ((m : Int) < (e : Int)) = true := decide_eq_true (by have := LL.out; have := LE.out; omega)
            have t_as : decide ((a : Int) < (i : Int)) = true := decide_eq_true (by have := LL.out; have := LE.out; omega)
            have t_sd : decide ((i : Int) < (mid : Int)) = true := decide_eq_true (by have := LL.out; have := LE.out; omega)
            have t_de : decide ((mid : Int) < (e : Int)) = true := decide_eq_true (by have := LL.out; have := LE.out; omega)
            have t_eb : decide ((e : Int) < (b : Int)) = true := decide_eq_true (by have := LL.out; have := LE.out; omega)
            rw [if_pos (by have := LL.out; have := LE.out; omega : mid < e ∧ e < b), if_pos (by have := LL.out; have := LE.out; omega : a < i ∧ i < mid), if_pos (by have := LL.out; have := LE.out; omega : i < m ∧ m < e)] at HX
            have hc0 := Aside0.mk (rotate_walk LS.out zE E.out cap i m e n (.func (.func c) #[] #[]) d wr hn S1.out (by have := LL.out; have := LE.out; omega) (by have := LL.out; have := LE.out; omega) (by have := LL.out; have := LE.out; omega) hsz)
            obtain ⟨d2, hd2⟩ : ∃ x, x = rot d i m e := ⟨_, rfl⟩
            rw [← hd2] at hc0 HX
            have zd2 : d2.size = n := by rw [hd2, size_rot]; exact hn
            clear hd2
            go_wp2_with fail
            refine hc0.out.mono ?_
            rintro e0 W2 ⟨rfl, S2⟩
            replace S2 := Aside0.mk S2
            clear hc0
            have hc1 := Aside0.mk (IH.out a i mid d2 W2 (by have := LL.out; have := LE.out; omega) (by have := LL.out; have := LE.out; omega) (by have := LL.out; have := LE.out; omega) (by have := LL.out; have := LE.out; omega) zd2 S2.out)
            obtain ⟨d3, hd3⟩ : ∃ x, x = symMerge (ltOf cf) f d2 a i mid := ⟨_, rfl⟩
            rw [← hd3] at hc1 HX
            have zd3 : d3.size = n := by rw [hd3, size_symMerge]; exact zd2
            clear hd3
            go_wp2_with fail
            refine hc1.out.mono ?_
            rintro e1 W3 ⟨rfl, S3⟩
            replace S3 := Aside0.mk S3
            clear hc1
            have hc2 := Aside0.mk (IH.out mid e b d3 W3 (by have := LL.out; have := LE.out; omega) (by have := LL.out; have := LE.out; omega) (by have := LL.out; have := LE.out; omega) (by have := LL.out; have := LE.out; omega) zd3 S3.out)
            obtain ⟨d4, hd4⟩ : ∃ x, x = symMerge (ltOf cf) f d3 mid e b := ⟨_, rfl⟩
            rw [← hd4] at hc2 HX
            have zd4 : d4.size = n := by rw [hd4, size_symMerge]; exact zd3
            clear hd4
            go_wp2_with fail
            refine hc2.out.mono ?_
            rintro e2 W4 ⟨rfl, S4⟩
            replace S4 := Aside0.mk S4
            clear hc2
            go_wp2_with fail
            refine bodyPost_end (results_none rfl _ _ _) rfl ⟨rfl, ?_⟩
            rw [HX.out]
            exact S4.out
          · have t_sm : decide ((i : Int) < (m : Int)) = true := decide_eq_true (by have := LL.out; have := LE.out; omega)
            have t_me : decide ((m : Int) < (e : Int)) = true := decide_eq_true (by have := LL.out; have := LE.out; omega)
            have t_as : decide ((a : Int) < (i : Int)) = true := decide_eq_true (by have := LL.out; have := LE.out; omega)
            have t_sd : decide ((i : Int) < (mid : Int)) = true := decide_eq_true (by have := LL.out; have := LE.out; omega)
            have t_de : decide ((mid : Int) < (e : Int)) = true := decide_eq_true (by have := LL.out; have := LE.out; omega)
            have t_eb : decide ((e : Int) < (b : Int)) = false := decide_eq_false (by have := LL.out; have := LE.out; omega)
            rw [if_neg (by have := LL.out; have := LE.out; omega : ¬ (mid < e ∧ e < b)), if_pos (by have := LL.out; have := LE.out; omega : a < i ∧ i < mid), if_pos (by have := LL.out; have := LE.out; omega : i < m ∧ m < e)] at HX
            have hc0 := Aside0.mk (rotate_walk LS.out zE E.out cap i m e n (.func (.func c) #[] #[]) d wr hn S1.out (by have := LL.out; have := LE.out; omega) (by have := LL.out; have := LE.out; omega) (by have := LL.out; have := LE.out; omega) hsz)
            obtain ⟨d2, hd2⟩ : ∃ x, x = rot d i m e := ⟨_, rfl⟩
            rw [← hd2] at hc0 HX
            have zd2 : d2.size = n := by rw [hd2, size_rot]; exact hn
            clear hd2
            go_wp2_with fail
            refine hc0.out.mono ?_
            rintro e0 W2 ⟨rfl, S2⟩
            replace S2 := Aside0.mk S2
            clear hc0
            have hc1 := Aside0.mk (IH.out a i mid d2 W2 (by have := LL.out; have := LE.out; omega) (by have := LL.out; have := LE.out; omega) (by have := LL.out; have := LE.out; omega) (by have := LL.out; have := LE.out; omega) zd2 S2.out)
            obtain ⟨d3, hd3⟩ : ∃ x, x = symMerge (ltOf cf) f d2 a i mid := ⟨_, rfl⟩
            rw [← hd3] at hc1 HX
            have zd3 : d3.size = n := by rw [hd3, size_symMerge]; exact zd2
            clear hd3
            go_wp2_with fail
            refine hc1.out.mono ?_
            rintro e1 W3 ⟨rfl, S3⟩
            replace S3 := Aside0.mk S3
            clear hc1
            go_wp2_with fail
            refine bodyPost_end (results_none rfl _ _ _) rfl ⟨rfl, ?_⟩
            rw [HX.out]
            exact S3.out
        · by_cases q_eb : e < b
          · exfalso
            have := LL.out; have := LE.out; omega
          · have t_sm : decide ((i : Int) < (m : Int)) = true := decide_eq_true (by have := LL.out; have := LE.out; omega)
            have t_me : decide ((m : Int) < (e : Int)) = true := decide_eq_true (by have := LL.out; have := LE.out; omega)
            have t_as : decide ((a : Int) < (i : Int)) = false := decide_eq_false (by have := LL.out; have := LE.out; omega)
            have t_de : decide ((mid : Int) < (e : Int)) = true := decide_eq_true (by have := LL.out; have := LE.out; omega)
            have t_eb : decide ((e : Int) < (b : Int)) = false := decide_eq_false (by have := LL.out; have := LE.out; omega)
            rw [if_neg (by have := LL.out; have := LE.out; omega : ¬ (mid < e ∧ e < b)), if_neg (by have := LL.out; have := LE.out; omega : ¬ (a < i ∧ i < mid)), if_pos (by have := LL.out; have := LE.out; omega : i < m ∧ m < e)] at HX
            have hc0 := Aside0.mk (rotate_walk LS.out zE E.out cap i m e n (.func (.func c) #[] #[]) d wr hn S1.out (by have := LL.out; have := LE.out; omega) (by have := LL.out; have := LE.out; omega) (by have := LL.out; have := LE.out; omega) hsz)
            obtain ⟨d2, hd2⟩ : ∃ x, x = rot d i m e := ⟨_, rfl⟩
            rw [← hd2] at hc0 HX
            have zd2 : d2.size = n := by rw [hd2, size_rot]; exact hn
            clear hd2
            go_wp2_with fail
            refine hc0.out.mono ?_
            rintro e0 W2 ⟨rfl, S2⟩
            replace S2 := Aside0.mk S2
            clear hc0
            go_wp2_with fail
            refine bodyPost_end (results_none rfl _ _ _) rfl ⟨rfl, ?_⟩
            rw [HX.out]
            exact S2.out
      · have t_sm : decide ((i : Int) < (m : Int)) = true := decide_eq_true (by have := LL.out; have := LE.out; omega)
        have t_me : decide ((m : Int) < (e : Int)) = false := decide_eq_false (by have := LL.out; have := LE.out; omega)
        have t_as : decide ((a : Int) < (i : Int)) = true := decide_eq_true (by have := LL.out; have := LE.out; omega)
        have t_sd : decide ((i : Int) < (mid : Int)) = false := decide_eq_false (by have := LL.out; have := LE.out; omega)
        have t_de : decide ((mid : Int) < (e : Int)) = true := decide_eq_true (by have := LL.out; have := LE.out; omega)
        have t_eb : decide ((e : Int) < (b : Int)) = true := decide_eq_true (by have := LL.out; have := LE.out; omega)
        rw [if_pos (by have := LL.out; have := LE.out; omega : mid < e ∧ e < b), if_neg (by have := LL.out; have := LE.out; omega : ¬ (a < i ∧ i < mid)), if_neg (by have := LL.out; have := LE.out; omega : ¬ (i < m ∧ m < e))] at HX
        have hc0 := Aside0.mk (IH.out mid e b d wr (by have := LL.out; have := LE.out; omega) (by have := LL.out; have := LE.out; omega) (by have := LL.out; have := LE.out; omega) (by have := LL.out; have := LE.out; omega) hn S1.out)
        obtain ⟨d2, hd2⟩ : ∃ x, x = symMerge (ltOf cf) f d mid e b := ⟨_, rfl⟩
        rw [← hd2] at hc0 HX
        have zd2 : d2.size = n := by rw [hd2, size_symMerge]; exact hn
        clear hd2
        go_wp2_with fail
        refine hc0.out.mono ?_
        rintro e0 W2 ⟨rfl, S2⟩
        replace S2 := Aside0.mk S2
        clear hc0
        go_wp2_with fail
        refine bodyPost_end (results_none rfl _ _ _) rfl ⟨rfl, ?_⟩
        rw [HX.out]
        exact S2.out

set_option maxHeartbeats 16000000 in
set_option maxRecDepth 100000 in
theorem sym_c2 (LS : SymL Pg) (zE : ∀ w, (Go.sizeOf 24).run Pg w = .ok k w) (E : EncK enc k) (cf : α → α → Int) (c : Nat) (eg : ∀ args w, (callFunc c args).run Pg w = .ok (.enter c args) w) (cap a m b n : Nat) (d : Array α) (W : World) (HC : CmpB Pg c enc k cf w0 g rest n) (hn : d.size = n) (S : SB enc k w0 g rest d W) (ham : a < m) (hmb : m < b) (hb : b ≤ n) (hsz : n < 4611686018427387904) (f : Nat) (hf : b - a ≤ f + 1) (hside : ¬ (a + b) / 2 < m) (hone : ¬ m = a + 1) (hb1 : ¬ b = m + 1)
    (IH : ∀ (a' m' b' : Nat) (d' : Array α) (W' : World), b' - a' ≤ f → a' < m' → m' < b' → b' ≤ n → d'.size = n → SB enc k w0 g rest d' W' →
      Calls Pg 67 #[.slice (some ⟨g, 0, none⟩) n cap, .int .i64 a', .int .i64 m', .int .i64 b', .func (.func c) #[] #[]] W' fun e w' => e = .returned (.tuple #[]) ∧ SB enc k w0 g rest (symMerge (ltOf cf) f d' a' m' b') w') :
    Calls Pg 67 #[.slice (some ⟨g, 0, none⟩) n cap, .int .i64 a, .int .i64 m, .int .i64 b, .func (.func c) #[] #[]] W fun e w' => e = .returned (.tuple #[]) ∧ SB enc k w0 g rest (symMerge (ltOf cf) (f + 1) d a m b) w' := by
  have S0 := Aside0.mk S
  have HC := Aside0.mk HC
  clear S
  have mixed := LS.mixed; have t0 := LS.t0; have a0 := LS.a0; have z0 := LS.z0; have v0 := LS.v0; have t3 := LS.t3; have a3 := LS.a3; have z3 := LS.z3; have v3 := LS.v3; have t4 := LS.t4; have a4 := LS.a4; have z4 := LS.z4; have v4 := LS.v4; have t40 := LS.t40; have a40 := LS.a40; have z40 := LS.z40; have v40 := LS.v40; have t85 := LS.t85; have a85 := LS.a85; have z85 := LS.z85; have v85 := LS.v85; have t121 := LS.t121; have a121 := LS.a121; have z121 := LS.z121; have v121 := LS.v121
  have u40 := run_underlying LS.t40
  have u121 := run_underlying LS.t121
  have u3 := run_underlying LS.t3
  have aE := LS.a24
  have F := LS.f67
  have eR : ∀ args w, (callFunc 81 args).run Pg w = .ok (.enter 81 args) w := fun args w => enters_of LS.f81 rfl rfl args w
  have eM : ∀ args w, (callFunc 67 args).run Pg w = .ok (.enter 67 args) w := fun args w => enters_of LS.f67 rfl rfl args w
  have LS := Aside0.mk LS
  have E := Aside0.mk E
  have IH := Aside0.mk IH
  have HX := Aside0.mk (sym_eq (ltOf cf) f d a m b ((a + b) / 2) ((a + b) / 2 + m) _ _ (by omega) (by omega) rfl rfl rfl rfl)
  have e00 : IntKind.i64.wrap ((m : Int) - (a : Int)) = (m : Int) - (a : Int) := by rw [IntKind.wrap_i64]; omega
  have e0 : ((m : Int) - (a : Int) == 1) = false := beq_eq_false_iff_ne.2 (by omega)
  have e02 : IntKind.i64.wrap ((b : Int) - (m : Int)) = (b : Int) - (m : Int) := by rw [IntKind.wrap_i64]; omega
  have e03 : ((b : Int) - (m : Int) == 1) = false := beq_eq_false_iff_ne.2 (by omega)
  obtain ⟨t0, ht0⟩ : ∃ t0, t0 = a + b := ⟨_, rfl⟩
  obtain ⟨mid, hmid⟩ : ∃ mid, mid = t0 / 2 := ⟨_, rfl⟩
  obtain ⟨N, hN⟩ : ∃ N, N = mid + m := ⟨_, rfl⟩
  rw [← ht0, ← hmid, ← hN] at HX
  have ew0 : IntKind.i64.wrap ((a : Int) + (b : Int)) = (t0 : Int) := by rw [IntKind.wrap_i64]; omega
  have zs0 : (a : Int) + (b : Int) = (t0 : Int) := by omega
  have eu0 : IntKind.u64.wrap (t0 : Int) = (t0 : Int) := by simp [IntKind.wrap, IntKind.bits, IntKind.signed]; omega
  have ed0 : (t0 : Int) / 2 = (mid : Int) := by omega
  have ei0 : IntKind.i64.wrap (mid : Int) = (mid : Int) := by rw [IntKind.wrap_i64]; omega
  have ew1 : IntKind.i64.wrap ((mid : Int) + (m : Int)) = (N : Int) := by rw [IntKind.wrap_i64]; omega
  have zs1 : (mid : Int) + (m : Int) = (N : Int) := by omega
  obtain ⟨p, hp⟩ : ∃ p, p = N - 1 := ⟨_, rfl⟩
  have ew2 : IntKind.i64.wrap ((N : Int) - 1) = (p : Int) := by rw [IntKind.wrap_i64]; omega
  have zs2 : (N : Int) - 1 = (p : Int) := by omega
  obtain ⟨P, hP⟩ : ∃ P : Nat → Bool, P = fun c => !ltOf cf d[N - 1 - c]! d[c]! := ⟨_, rfl⟩
  have HP := Aside0.mk (show ∀ c, P c = !ltOf cf d[p - c]! d[c]! from fun c => by rw [hP, hp])
  rw [← hP] at HX
  have l1 : N = mid + m := hN
  have l2 : 2 * mid ≤ a + b := by omega
  have l3 : a + b ≤ 2 * mid + 1 := by omega
  have l4 : p + 1 = N := by omega
  have LL := Aside0.mk (show N = mid + m ∧ 2 * mid ≤ a + b ∧ a + b ≤ 2 * mid + 1 ∧ p + 1 = N ∧ ¬ m = a + 1 ∧ ¬ b = m + 1 from ⟨l1, l2, l3, l4, hone, hb1⟩)
  clear hP hp hN hmid ht0 hone hb1
  have hside' : ¬ mid < m := by omega
  rw [if_neg hside'] at HX
  have eMM : decide ((m : Int) > (mid : Int)) = false := decide_eq_false (by omega)
  obtain ⟨r, hr⟩ : ∃ r, r = bs P a m := ⟨_, rfl⟩
  have hrb := bs_bounds P n a m (by omega) (by omega)
  rw [← hr] at hrb HX
  have HR0 := Aside0.mk hr.symm
  clear hr hside l1 l2 l3 l4
  go_enter F, Try.ntmps67
  go_wp2_with fail
  go_loopg [20, 21] n (fun kk v10 v11 wr => ∃ (i j : Nat), v10 = .int .i64 i ∧ v11 = .int .i64 j ∧ a ≤ i ∧ i ≤ j ∧ j ≤ m ∧ j - i ≤ kk ∧ Aside0 (SB enc k w0 g rest d wr) ∧ Aside0 (bs P i j = r))
  case atStart => exact ⟨a, m, rfl, rfl, Nat.le_refl _, by have := LL.out; omega, Nat.le_refl _, by have := LL.out; omega, S0, HR0⟩
  case round =>
    clear S0
    obtain ⟨i, j, rfl, rfl, hi1, hij, hj1, hk, S1, HR⟩ := hrel
    by_cases hlt : i < j
    · have e1 : decide ((i : Int) < (j : Int)) = true := decide_eq_true (by omega)
      obtain ⟨s, hs⟩ : ∃ s, s = i + j := ⟨_, rfl⟩
      obtain ⟨h, hh⟩ : ∃ h, h = s / 2 := ⟨_, rfl⟩
      have ew : IntKind.i64.wrap ((i : Int) + (j : Int)) = (s : Int) := by have := LL.out; rw [IntKind.wrap_i64]; omega
      have zs : (i : Int) + (j : Int) = (s : Int) := by omega
      have eu : IntKind.u64.wrap (s : Int) = (s : Int) := by have := LL.out; simp [IntKind.wrap, IntKind.bits, IntKind.signed]; omega
      have ed : (s : Int) / 2 = (h : Int) := by omega
      have ei : IntKind.i64.wrap (h : Int) = (h : Int) := by have := LL.out; rw [IntKind.wrap_i64]; omega
      have HS := Aside0.mk (show (i + j) / 2 = h ∧ i ≤ h ∧ h < j by omega)
      have bh : (h : Int) < (n : Int) := by have := LL.out; omega
      have hlo : i ≤ h := by omega
      have hhi : h < j := by omega
      clear hs hh
      obtain ⟨q, hq⟩ : ∃ q, q = p - h := ⟨_, rfl⟩
      have hq2 : q + h = p := by have := LL.out; omega
      have eq : IntKind.i64.wrap ((p : Int) - (h : Int)) = (q : Int) := by have := LL.out; rw [IntKind.wrap_i64]; omega
      have zq : (p : Int) - (h : Int) = (q : Int) := by omega
      have ezq : IntKind.i64.wrap (q : Int) = (q : Int) := by rw [IntKind.wrap_i64]; have := LL.out; omega
      have hqn : q < n := by have := LL.out; omega
      have bq : (q : Int) < (n : Int) := by omega
      have HQ := Aside0.mk hq.symm
      clear hq hq2
      have HV := Aside0.mk (show P ((i + j) / 2) = !decide (cf d[q]! d[h]! < 0) by rw [HS.out.1, HP.out, HQ.out]; rfl)
      have l1 := S1.out.ld E.out Pg q (by have := LL.out; omega)
      have l2 := S1.out.ld E.out Pg h (by have := LL.out; omega)
      have hc := HC.out.at hn S1.out d[q]! d[h]!
      generalize cf d[q]! d[h]! = z at hc HV
      generalize enc d[q]! = x at *
      generalize enc d[h]! = y at *
      by_cases hz : z < 0
      · have e3 : decide (z < 0) = true := decide_eq_true hz
        have HV := Aside0.mk (HV.out.trans (by rw [e3]))
        go_wp2_with fail
        refine wp_region_quiet_below mixed (by kernel_rfl) ?_
        repeat (quiet_step (refine hc _ _))
        refine wpQuiet_nil ?_
        intro _ hw'
        obtain ⟨⟨nq, osq⟩, hw''⟩ := hw'
        subst hw''
        have S2 := Aside0.mk (S1.out.below (below_regrown wr nq osq))
        clear l1 l2 hc S1
        generalize grow (redrawn wr nq) osq = W2 at S2 ⊢
        go_wp2_with fail
        go_roundg (h - i)
        case measure => omega
        case rel => exact ⟨i, h, rfl, by go_num, by omega, by omega, by omega, Nat.le_refl _, S2, ⟨by rw [← HR.out, bs_no P i j hlt HV.out, HS.out.1]⟩⟩
      · have e3 : decide (z < 0) = false := decide_eq_false hz
        have HV := Aside0.mk (HV.out.trans (by rw [e3]))
        go_wp2_with fail
        refine wp_region_quiet_below mixed (by kernel_rfl) ?_
        repeat (quiet_step (refine hc _ _))
        refine wpQuiet_nil ?_
        intro _ hw'
        obtain ⟨⟨nq, osq⟩, hw''⟩ := hw'
        subst hw''
        have S2 := Aside0.mk (S1.out.below (below_regrown wr nq osq))
        clear l1 l2 hc S1
        generalize grow (redrawn wr nq) osq = W2 at S2 ⊢
        go_wp2_with fail
        go_roundg (j - (h + 1))
        case measure => omega
        case rel => exact ⟨h + 1, j, by go_num, rfl, by omega, by omega, by omega, Nat.le_refl _, S2, ⟨by rw [← HR.out, bs_yes P i j hlt HV.out, HS.out.1]⟩⟩
    · have e1 : decide ((i : Int) < (j : Int)) = false := decide_eq_false (by omega)
      obtain rfl : i = r := by rw [← HR.out, bs_end P i j hlt]
      clear HP HR0 HR
      obtain ⟨e, he⟩ : ∃ e, e = N - i := ⟨_, rfl⟩
      rw [← he] at HX
      have he2 : e + i = N := by have := LL.out; omega
      have ewe : IntKind.i64.wrap ((N : Int) - (i : Int)) = (e : Int) := by have := LL.out; rw [IntKind.wrap_i64]; omega
      have zse : (N : Int) - (i : Int) = (e : Int) := by omega
      have LE := Aside0.mk (show e + i = N ∧ i ≤ N by have := LL.out; omega)
      clear he he2
      have hei := LE.out.2
      clear hei
      by_cases q_sm : i < m
      · by_cases q_as : a < i
        · by_cases q_eb : e < b
          · have t_sm : decide ((i : Int) < (m : Int)) = true := decide_eq_true (by have := LL.out; have := LE.out; omega)
            have t_me : decide ((m : Int) < (e : Int)) = true := decide_eq_true (by have := LL.out; have := LE.out; omega)
            have t_as : decide ((a : Int) < (i : Int)) = true := decide_eq_true (by have := LL.out; have := LE.out; omega)
            have t_sd : decide ((i : Int) < (mid : Int)) = true := decide_eq_true (by have := LL.out; have := LE.out; omega)
            have t_de : decide ((mid : Int) < (e : Int)) = true := decide_eq_true (by have := LL.out; have := LE.out; omega)
            have t_eb : decide ((e : Int) < (b : Int)) = true := decide_eq_true (by have := LL.out; have := LE.out; omega)
            rw [if_pos (by have := LL.out; have := LE.out; omega : mid < e ∧ e < b), if_pos (by have := LL.out; have := LE.out; omega : a < i ∧ i < mid), if_pos (by have := LL.out; have := LE.out; omega : i < m ∧ m < e)] at HX
            have hc0 := Aside0.mk (rotate_walk LS.out zE E.out cap i m e n (.func (.func c) #[] #[]) d wr hn S1.out (by have := LL.out; have := LE.out; omega) (by have := LL.out; have := LE.out; omega) (by have := LL.out; have := LE.out; omega) hsz)
            obtain ⟨d2, hd2⟩ : ∃ x, x = rot d i m e := ⟨_, rfl⟩
            rw [← hd2] at hc0 HX
            have zd2 : d2.size = n := by rw [hd2, size_rot]; exact hn
            clear hd2
            go_wp2_with fail
            refine hc0.out.mono ?_
            rintro e0 W2 ⟨rfl, S2⟩
            replace S2 := Aside0.mk S2
            clear hc0
            have hc1 := Aside0.mk (IH.out a i mid d2 W2 (by have := LL.out; have := LE.out; omega) (by have := LL.out; have := LE.out; omega) (by have := LL.out; have := LE.out; omega) (by have := LL.out; have := LE.out; omega) zd2 S2.out)
            obtain ⟨d3, hd3⟩ : ∃ x, x = symMerge (ltOf cf) f d2 a i mid := ⟨_, rfl⟩
            rw [← hd3] at hc1 HX
            have zd3 : d3.size = n := by rw [hd3, size_symMerge]; exact zd2
            clear hd3
            go_wp2_with fail
            refine hc1.out.mono ?_
            rintro e1 W3 ⟨rfl, S3⟩
            replace S3 := Aside0.mk S3
            clear hc1
            have hc2 := Aside0.mk (IH.out mid e b d3 W3 (by have := LL.out; have := LE.out; omega) (by have := LL.out; have := LE.out; omega) (by have := LL.out; have := LE.out; omega) (by have := LL.out; have := LE.out; omega) zd3 S3.out)
            obtain ⟨d4, hd4⟩ : ∃ x, x = symMerge (ltOf cf) f d3 mid e b := ⟨_, rfl⟩
            rw [← hd4] at hc2 HX
            have zd4 : d4.size = n := by rw [hd4, size_symMerge]; exact zd3
            clear hd4
            go_wp2_with fail
            refine hc2.out.mono ?_
            rintro e2 W4 ⟨rfl, S4⟩
            replace S4 := Aside0.mk S4
            clear hc2
            go_wp2_with fail
            refine bodyPost_end (results_none rfl _ _ _) rfl ⟨rfl, ?_⟩
            rw [HX.out]
            exact S4.out
          · exfalso
            have := LL.out; have := LE.out; omega
        · by_cases q_eb : e < b
          · have t_sm : decide ((i : Int) < (m : Int)) = true := decide_eq_true (by have := LL.out; have := LE.out; omega)
            have t_me : decide ((m : Int) < (e : Int)) = true := decide_eq_true (by have := LL.out; have := LE.out; omega)
            have t_as : decide ((a : Int) < (i : Int)) = false := decide_eq_false (by have := LL.out; have := LE.out; omega)
            have t_de : decide ((mid : Int) < (e : Int)) = true := decide_eq_true (by have := LL.out; have := LE.out; omega)
            have t_eb : decide ((e : Int) < (b : Int)) = true := decide_eq_true (by have := LL.out; have := LE.out; omega)
            rw [if_pos (by have := LL.out; have := LE.out; omega : mid < e ∧ e < b), if_neg (by have := LL.out; have := LE.out; omega : ¬ (a < i ∧ i < mid)), if_pos (by have := LL.out; have := LE.out; omega : i < m ∧ m < e)] at HX
            have hc0 := Aside0.mk (rotate_walk LS.out zE E.out cap i m e n (.func (.func c) #[] #[]) d wr hn S1.out (by have := LL.out; have := LE.out; omega) (by have := LL.out; have := LE.out; omega) (by have := LL.out; have := LE.out; omega) hsz)
            obtain ⟨d2, hd2⟩ : ∃ x, x = rot d i m e := ⟨_, rfl⟩
            rw [← hd2] at hc0 HX
            have zd2 : d2.size = n := by rw [hd2, size_rot]; exact hn
            clear hd2
            go_wp2_with fail
            refine hc0.out.mono ?_
            rintro e0 W2 ⟨rfl, S2⟩
            replace S2 := Aside0.mk S2
            clear hc0
            have hc1 := Aside0.mk (IH.out mid e b d2 W2 (by have := LL.out; have := LE.out; omega) (by have := LL.out; have := LE.out; omega) (by have := LL.out; have := LE.out; omega) (by have := LL.out; have := LE.out; omega) zd2 S2.out)
            obtain ⟨d3, hd3⟩ : ∃ x, x = symMerge (ltOf cf) f d2 mid e b := ⟨_, rfl⟩
            rw [← hd3] at hc1 HX
            have zd3 : d3.size = n := by rw [hd3, size_symMerge]; exact zd2
            clear hd3
            go_wp2_with fail
            refine hc1.out.mono ?_
            rintro e1 W3 ⟨rfl, S3⟩
            replace S3 := Aside0.mk S3
            clear hc1
            go_wp2_with fail
            refine bodyPost_end (results_none rfl _ _ _) rfl ⟨rfl, ?_⟩
            rw [HX.out]
            exact S3.out
          · have t_sm : decide ((i : Int) < (m : Int)) = true := decide_eq_true (by have := LL.out; have := LE.out; omega)
            have t_me : decide ((m : Int) < (e : Int)) = true := decide_eq_true (by have := LL.out; have := LE.out; omega)
            have t_as : decide ((a : Int) < (i : Int)) = false := decide_eq_false (by have := LL.out; have := LE.out; omega)
            have t_de : decide ((mid : Int) < (e : Int)) = true := decide_eq_true (by have := LL.out; have := LE.out; omega)
            have t_eb : decide ((e : Int) < (b : Int)) = false := decide_eq_false (by have := LL.out; have := LE.out; omega)
            rw [if_neg (by have := LL.out; have := LE.out; omega : ¬ (mid < e ∧ e < b)), if_neg (by have := LL.out; have := LE.out; omega : ¬ (a < i ∧ i < mid)), if_pos (by have := LL.out; have := LE.out; omega : i < m ∧ m < e)] at HX
            have hc0 := Aside0.mk (rotate_walk LS.out zE E.out cap i m e n (.func (.func c) #[] #[]) d wr hn S1.out (by have := LL.out; have := LE.out; omega) (by have := LL.out; have := LE.out; omega) (by have := LL.out; have := LE.out; omega) hsz)
            obtain ⟨d2, hd2⟩ : ∃ x, x = rot d i m e := ⟨_, rfl⟩
            rw [← hd2] at hc0 HX
            have zd2 : d2.size = n := by rw [hd2, size_rot]; exact hn
            clear hd2
            go_wp2_with fail
            refine hc0.out.mono ?_
            rintro e0 W2 ⟨rfl, S2⟩
            replace S2 := Aside0.mk S2
            clear hc0
            go_wp2_with fail
            refine bodyPost_end (results_none rfl _ _ _) rfl ⟨rfl, ?_⟩
            rw [HX.out]
            exact S2.out
      · by_cases q_sd : i < mid
        · have t_sm : decide ((i : Int) < (m : Int)) = false := decide_eq_false (by have := LL.out; have := LE.out; omega)
          have t_as : decide ((a : Int) < (i : Int)) = true := decide_eq_true (by have := LL.out; have := LE.out; omega)
          have t_sd : decide ((i : Int) < (mid : Int)) = true := decide_eq_true (by have := LL.out; have := LE.out; omega)
          have t_de : decide ((mid : Int) < (e : Int)) = false := decide_eq_false (by have := LL.out; have := LE.out; omega)
          rw [if_neg (by have := LL.out; have := LE.out; omega : ¬ (mid < e ∧ e < b)), if_pos (by have := LL.out; have := LE.out; omega : a < i ∧ i < mid), if_neg (by have := LL.out; have := LE.out; omega : ¬ (i < m ∧ m < e))] at HX
          have hc0 := Aside0.mk (IH.out a i mid d wr (by have := LL.out; have := LE.out; omega) (by have := LL.out; have := LE.out; omega) (by have := LL.out; have := LE.out; omega) (by have := LL.out; have := LE.out; omega) hn S1.out)
          obtain ⟨d2, hd2⟩ : ∃ x, x = symMerge (ltOf cf) f d a i mid := ⟨_, rfl⟩
          rw [← hd2] at hc0 HX
          have zd2 : d2.size = n := by rw [hd2, size_symMerge]; exact hn
          clear hd2
          go_wp2_with fail
          refine hc0.out.mono ?_
          rintro e0 W2 ⟨rfl, S2⟩
          replace S2 := Aside0.mk S2
          clear hc0
          go_wp2_with fail
          refine bodyPost_end (results_none rfl _ _ _) rfl ⟨rfl, ?_⟩
          rw [HX.out]
          exact S2.out
        · have t_sm : decide ((i : Int) < (m : Int)) = false := decide_eq_false (by have := LL.out; have := LE.out; omega)
          have t_as : decide ((a : Int) < (i : Int)) = true := decide_eq_true (by have := LL.out; have := LE.out; omega)
          have t_sd : decide ((i : Int) < (mid : Int)) = false := decide_eq_false (by have := LL.out; have := LE.out; omega)
          have t_de : decide ((mid : Int) < (e : Int)) = false := decide_eq_false (by have := LL.out; have := LE.out; omega)
          rw [if_neg (by have := LL.out; have := LE.out; omega : ¬ (mid < e ∧ e < b)), if_neg (by have := LL.out; have := LE.out; omega : ¬ (a < i ∧ i < mid)), if_neg (by have := LL.out; have := LE.out; omega : ¬ (i < m ∧ m < e))] at HX
          go_wp2_with fail
          refine bodyPost_end (results_none rfl _ _ _) rfl ⟨rfl, ?_⟩
          rw [HX.out]
          exact S1.out

/-- symMerge, whole -/
theorem sym_walk (LS : SymL Pg) (zE : ∀ w, (Go.sizeOf 24).run Pg w = .ok k w) (E : EncK enc k) (cf : α → α → Int) (c : Nat) (eg : ∀ args w, (callFunc c args).run Pg w = .ok (.enter c args) w) (cap n : Nat) (HC : CmpB Pg c enc k cf w0 g rest n) (hsz : n < 4611686018427387904) (f : Nat) :
    ∀ (a m b : Nat) (d : Array α) (W : World), b - a ≤ f → a < m → m < b → b ≤ n → d.size = n → SB enc k w0 g rest d W →
      Calls Pg 67 #[.slice (some ⟨g, 0, none⟩) n cap, .int .i64 a, .int .i64 m, .int .i64 b, .func (.func c) #[] #[]] W fun e w' => e = .returned (.tuple #[]) ∧ SB enc k w0 g rest (symMerge (ltOf cf) f d a m b) w' := by
  induction f with
  | zero => intro a m b d W h; omega
  | succ f ih =>
    intro a m b d W hf ham hmb hb hn S
    by_cases c1 : m = a + 1
    · have := sym_a LS zE E cf c eg cap a m b n d W HC hn S ham hmb hb hsz c1
      rw [symMerge, if_pos (by omega)]
      exact this
    · by_cases c2 : b = m + 1
      · have := sym_b LS zE E cf c eg cap a m b n d W HC hn S ham hmb hb hsz c1 c2
        rw [symMerge, if_neg (by omega), if_pos (by omega)]
        exact this
      · by_cases c3 : (a + b) / 2 < m
        · exact sym_c1 LS zE E cf c eg cap a m b n d W HC hn S ham hmb hb hsz f hf c3 c1 c2 ih
        · exact sym_c2 LS zE E cf c eg cap a m b n d W HC hn S ham hmb hb hsz f hf c3 c1 c2 ih
end Go.Proofs.Ytjladdjpnicldaa.PA
