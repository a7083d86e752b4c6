/- units.To: the units of UTF-16 that one sees: the call hands back a new slice that holds unitsOf of the bytes. Condition: fewer than 2^45 bytes. -/
import Derived.Test.YtdomggegacgmnaaDoorGCore
import Derived.Test.YtdomggegacgmnaaDoorPAx2
import Derived.Laws.IdiomStrings
import Derived.Laws.RangeAny
import Derived.Laws.BitsLemmas
namespace Go.Proofs.YtdomggegacgmnaaDoor.PA
open Go.RowKit Go.Proofs.YtdomggegacgmnaaDoorW.PrintWords Go.Proofs.YtdomggegacgmnaaDoorW.PrintLast Go.Proofs.YtdomggegacgmnaaDoorW.PrintMore

/-! ### the language's runes -/
theorem runes_eq (s : ByteArray) : ∀ (f i : Nat) (acc : Array Value), Conv.runesFrom s f i acc = acc ++ ((runesFrom s f i).map (Value.int .i32)).toArray
  | 0, _, acc => by simp [Conv.runesFrom, runesFrom]
  | f + 1, i, acc => by
    rw [Conv.runesFrom, runesFrom]
    split
    · show Conv.runesFrom s f (i + (Utf8.decode s i).2) (acc.push (Value.int IntKind.i32 (Int.ofNat (Utf8.decode s i).1))) = _
      rw [runes_eq s f]; simp
    · simp
theorem runes_bound (s : ByteArray) : ∀ (f i : Nat), (runesFrom s f i).length ≤ f
  | 0, _ => by simp [runesFrom]
  | f + 1, i => by
    rw [runesFrom]
    split
    · have := runes_bound s f (i + (Utf8.decode s i).2); simp; omega
    · simp
theorem runesOf_le (l : List Int) : (runesOf l).length ≤ l.length := runes_bound _ _ _
theorem runes_range (s : ByteArray) : ∀ (f i : Nat), ∀ r ∈ runesFrom s f i, 0 ≤ r ∧ r ≤ 2147483647
  | 0, _, r, h => by simp [runesFrom] at h
  | f + 1, i, r, h => by
    rw [runesFrom] at h
    split at h
    · rcases List.mem_cons.1 h with rfl | h
      · have := decode_le s i; constructor <;> omega
      · exact runes_range s f _ r h
    · simp at h
/-- []rune(s): a new row; what one reads of it -/
theorem conv_runes (s : ByteArray) (w : World) (h46 : (runesFrom s s.size 0).length ≤ 70368744177664) :
    ∃ (c : Nat) (W : World), (convert 9 51 (.string s)).run Tryd.prog w = .ok (.slice (some ⟨w.heap.size, 0, none⟩) (runesFrom s s.size 0).length c) W ∧ (runesFrom s s.size 0).length ≤ c ∧ Below w.heap.size w W ∧ Kd.C (Kd.int .i32) W (some ⟨w.heap.size, 0, none⟩) (runesFrom s s.size 0).length (runesFrom s s.size 0) := by
  have e := runes_eq s s.size 0 #[]
  have hz : (Conv.runesFrom s s.size 0 #[]).size = (runesFrom s s.size 0).length := by rw [e]; simp
  have := run_runes_of_string (P := Tryd.prog) w 9 51 21 s Tryd.underlying9 Tryd.underlying51 Tryd.underlying21 (by rw [hz]; exact h46)
  rw [hz] at this
  refine ⟨_, _, this, grownCap_ge w _ 0 21, ((Below.refl _ w).drew).alloc (Nat.le_refl _) _, ?_⟩
  refine Kd.C_of_reads (d := (0 : Int)) (enc := Value.int .i32) (h1 := fun _ => rfl) ⟨rfl, by omega, fun _ => ⟨_, rfl, fun j hj => ?_⟩⟩
  have hb : (⟨w.heap.size, 0, none⟩ : Addr).add j = ⟨w.drew.heap.size, j, none⟩ := by unfold Addr.add; split <;> simp_all
  rw [hb, World.cell?_alloc_mark, e]
  rw [Array.getElem?_append_left (by simp; omega)]
  simp [List.getElem?_eq_getElem hj, List.getD_eq_getElem?_getD]

/-! ### a rune's units -/
theorem valid_f (r : Int) : utf8_ValidRune.f 1 r = some (decide ((0 ≤ r ∧ r < 55296) ∨ (57343 < r ∧ r ≤ 1114111))) := by
  unfold utf8_ValidRune.f
  by_cases h0 : 0 ≤ r
  · rw [if_pos h0, utf8_ValidRune.j0]
    by_cases h1 : r < 55296
    · rw [if_pos (decide_eq_true h1), decide_eq_true (Or.inl ⟨h0, h1⟩)]
    · rw [if_neg (by simpa using h1)]
      by_cases h2 : 57343 < r
      · rw [if_pos h2]
        by_cases h3 : r ≤ 1114111
        · rw [if_pos h3, decide_eq_true (Or.inr ⟨h2, h3⟩)]
        · rw [if_neg h3, decide_eq_false (by omega)]
      · rw [if_neg h2, decide_eq_false (by omega)]
  · rw [if_neg h0, utf8_ValidRune.j0, if_neg (by simp), if_neg (by omega), decide_eq_false (by omega)]
theorem split_two (r : Int) (h1 : 65535 < r) (h2 : r ≤ 1114111) : units_Split.f 1 r = some (55296 + (r - 65536) / 1024, 56320 + (r - 65536) % 1024, true) := by
  unfold units_Split.f units_Len.f
  rw [valid_f, decide_eq_true (by omega)]
  simp only [Option.bind_some, if_true]
  rw [if_pos (by omega)]
  simp only [Option.bind_some, if_true]
  have e : wrap32 (r - 65536) = r - 65536 := by unfold wrap32; omega
  rw [e]
  have m := bits_mask .i32 31 (by decide) wraps_i32 10 (by decide) (r - 65536) (by omega) (by omega)
  rw [show ((2 : Int) ^ 10 - 1) = 1023 from rfl, show ((2 : Int) ^ 10) = 1024 from rfl] at m
  rw [m]
  have e1 : wrap32 (55296 + (r - 65536) / 1024) = 55296 + (r - 65536) / 1024 := by unfold wrap32; omega
  have e2 : wrap32 (56320 + (r - 65536) % 1024) = 56320 + (r - 65536) % 1024 := by unfold wrap32; omega
  rw [e1, e2]
  have w1 : ∀ n : Int, 0 ≤ n → n < 65536 → IntKind.u16.wrap n = n := fun n a b => by simp [IntKind.wrap, IntKind.bits, IntKind.signed]; omega
  rw [w1 _ (by omega) (by omega), w1 _ (by omega) (by omega)]
theorem split_one (r : Int) (h : ¬ (65535 < r ∧ r ≤ 1114111)) : units_Split.f 1 r = some (0, 0, false) := by
  unfold units_Split.f units_Len.f
  rw [valid_f]
  simp only [Option.bind_some]
  by_cases hv : (0 ≤ r ∧ r < 55296) ∨ (57343 < r ∧ r ≤ 1114111)
  · rw [if_pos (decide_eq_true hv), if_neg (by omega)]; rfl
  · rw [if_neg (by simpa using hv)]; rfl

/-! ### append of a literal's numbers -/
theorem append_nums {P : Program} {ops : Array Oper} {rest : List Oper} {o : Oper} {a : Act} {Q : Exit → Act → World → Prop} {w0 W : World} (base : Nat) (hgd : o.guard = none) (s x : Operand) (t e : TypeId) (k : IntKind) (bytes : Nat)
    (ho : o.op = .call { callee := .builtin .append, args := #[s, x], argTypes := #[t, t] })
    (ht : P.underlying t = some (.slice e)) (hinfo : (P.info? e).map (fun i => (i.zero, i.size, i.bytes)) = some (some (.int k 0), 1, bytes)) (hb0 : 0 < bytes)
    (v : Value) (xs ys : List Int) (m : Nat) (hm : m = ys.length) (hs : a.eval s = v) (hx : a.eval x = .slice (some ⟨W.heap.size, 0, none⟩) m m)
    (HO : W.ownsRow base e 1 v xs.length (nums k xs)) (HB : Below base w0 W) (hbase : base ≤ W.heap.size) (hl : (xs.length + ys.length) * bytes ≤ 140737488355328)
    (h : ∀ v1 w1, w1.ownsRow base e 1 v1 (xs ++ ys).length (nums k (xs ++ ys)) → Below base w0 w1 → wpList P ops Q rest (a.put o.dst v1) w1) :
    wpList P ops Q (o :: rest) a (W.alloc (.cells (nums k ys).toArray e)) := by
  subst hm
  obtain ⟨i0, hi, hzz⟩ := Option.map_eq_some_iff.1 hinfo
  simp only [Prod.mk.injEq] at hzz
  obtain ⟨hz0, hz1, hz2⟩ := hzz
  have hlen : xs.length + ys.length ≤ 140737488355328 := Nat.le_trans (Nat.le_mul_of_pos_right _ hb0) hl
  refine wpList_append_own_at (W.alloc (.cells (nums k ys).toArray e)) hgd s x t ho base e i0 (.int k 0) 1 bytes ht hi hz0 hz1 hz2 rfl (by omega) v xs.length (nums k xs) hs (HO.alloc _) ⟨W.heap.size, 0, none⟩ ys.length ys.length (nums k ys) hx (by simp [nums])
    (World.news_of_block (cs := (nums k ys).toArray) (t := e) (fr := (0, 0)) (heap_alloc_new W _)) (by simp [nums, Value.oneCell']) (by simp only [maxLen]; omega) hl (by simp; omega) ?_
  intro v1 w1 hown hg _ hat
  exact h v1 w1 (by simpa [nums] using hown) ((HB.alloc hbase _).grown hg (by simp; omega) (own_base HO))

theorem units_le (rs : List Int) : (rs.flatMap unitsR).length ≤ 2 * rs.length := by
  induction rs with
  | nil => simp
  | cons r rs ih =>
    have : (unitsR r).length ≤ 2 := by unfold unitsR; split <;> simp
    simp only [List.flatMap_cons, List.length_append, List.length_cons]; omega

set_option maxHeartbeats 8000000 in
set_option maxRecDepth 100000 in
theorem to_walk (A0 : Option Addr) (c0 : Nat) (l0 : List Int) (w : World) (hr0 : Kd.C (Kd.int .u8) w A0 l0.length l0) (_hc0 : l0.length ≤ c0) (hm : l0.length < 35184372088832) :
    Calls Tryd.prog 31 #[.slice A0 l0.length c0] w fun e w' => ∃ v0_ : Value, e = .returned (v0_) ∧ Kd.R (Kd.int .u16) 53 w' w.heap.size (fun _ => True) v0_ (unitsOf l0) ∧ Below w.heap.size w w' := by
  have hcv := Kd.C_string Tryd.underlying22 Tryd.underlying5 Tryd.underlying9 hr0 (c := c0)
  have hsz : (strOfNums l0).size = l0.length := strOfNums_size l0
  have hrl := runesOf_le l0
  obtain ⟨c, W, hcr, hc, hB, hC⟩ := conv_runes (strOfNums l0) w (by rw [hsz]; unfold runesOf at hrl; omega)
  rw [hsz] at hcr hc hC
  rw [show runesFrom (strOfNums l0) l0.length 0 = runesOf l0 from rfl] at hcr hc hC
  have HU := Aside0.mk (show unitsOf l0 = (runesOf l0).flatMap unitsR from rfl)
  generalize unitsOf l0 = us at HU ⊢
  generalize strOfNums l0 = s at hcv hcr
  generalize runesOf l0 = rs at *
  have HB := Aside0.mk hB
  have HC := Aside0.mk hC
  have hrm : rs.length ≤ 35184372088832 := by omega
  clear hr0 hsz hB hC hrl
  go_enter Tryd.func31, Tryd.ntmps31
  go_wp2_with fail
  go_loopg [3, 13] rs.length (fun g v3 v13 Wr => ∃ k : Nat, v13 = .int .i64 k ∧ k ≤ rs.length ∧ rs.length - k ≤ g ∧ Aside0 (Wr.ownsRow W.heap.size 53 1 v3 ((rs.take k).flatMap unitsR).length (nums .u16 ((rs.take k).flatMap unitsR))) ∧ Aside0 (Below W.heap.size W Wr))
  case atStart => exact ⟨0, rfl, by omega, by omega, ⟨by simpa [nums] using own_nil W W.heap.size 53 1⟩, ⟨Below.refl _ _⟩⟩
  case round =>
    obtain ⟨k, rfl, hk, hg, HO, HW⟩ := hrel
    by_cases h3 : k < rs.length
    · have e1 : decide ((k : Int) < (rs.length : Int)) = true := decide_eq_true (by omega)
      have HCr := Kd.C_below HC.out HW.out
      obtain ⟨ad, ea, hcl⟩ := (Kd.reads_of_C (enc := Value.int .i32) (d := (0 : Int)) (h1 := fun _ => rfl) HCr).2.2 (by omega)
      obtain rfl := Option.some.inj ea
      have hcl := hcl k h3
      have ha : (⟨w.heap.size, 0, none⟩ : Addr).add k = ⟨w.heap.size, k, none⟩ := by unfold Addr.add; split <;> simp_all
      rw [ha] at hcl
      have hr : rs.getD k 0 = rs[k] := by simp [List.getD_eq_getElem?_getD, h3]
      rw [hr] at hcl
      have ht : (rs.take (k + 1)).flatMap unitsR = (rs.take k).flatMap unitsR ++ unitsR rs[k] := by rw [List.take_add_one, List.getElem?_eq_getElem h3, List.flatMap_append]; simp
      have hlk := units_le (rs.take k)
      rw [List.length_take] at hlk
      generalize rs[k] = r at hcl ht
      have HT := Aside0.mk ht
      clear HCr ha ea hr ht
      generalize hxs : (rs.take k).flatMap unitsR = xs at HO HT hlk
      have hb0 : W.heap.size ≤ wr.heap.size := HW.out.size
      clear hxs
      by_cases h2 : 65535 < r ∧ r ≤ 1114111
      · have hs := split_two r h2.1 h2.2
        have hu : unitsR r = [55296 + (r - 65536) / 1024, 56320 + (r - 65536) % 1024] := if_pos h2
        rw [hu] at HT
        generalize 55296 + (r - 65536) / 1024 = x1 at hs HT
        generalize 56320 + (r - 65536) % 1024 = x2 at hs HT
        have HS := Aside0.mk hs
        clear h2 hs hu
        go_wp2_with fail
        refine (units_Split.calls 1 r x1 x2 true _ HS.out).mono ?_
        rintro e w' ⟨rfl, ⟨nd, rfl⟩⟩
        have HO2 := Aside0.mk (pw_own_below HO.out (pw_below_drewN (Below.refl _ wr) nd))
        have HW2 := Aside0.mk (pw_below_drewN HW.out nd)
        have hb2 : W.heap.size ≤ (wr.drewN nd).heap.size := hb0
        clear HO HW hb0
        generalize wr.drewN nd = W2 at HO2 HW2 hb2 ⊢
        go_wp2_with (first | (at_builtin; refine append_nums (w0 := W) W.heap.size rfl (.tmp 24) (.tmp 27) 54 53 .u16 2 rfl Tryd.underlying54 rfl (by decide) u3 xs [x1, x2] 2 rfl rfl rfl HO2.out HW2.out hb2 (by simp only [List.length_cons, List.length_nil]; omega) ?_; intro v1 w1 HO3 HW3; replace HO3 := Aside0.mk HO3; replace HW3 := Aside0.mk HW3))
        go_roundg (rs.length - (k + 1))
        case measure => omega
        case rel =>
          exact ⟨k + 1, by go_num, by omega, by omega, ⟨by rw [HT.out]; exact HO3.out⟩, HW3⟩
      · have hs := split_one r h2
        have hu : unitsR r = [IntKind.u16.wrap r] := if_neg h2
        rw [hu] at HT
        have HS := Aside0.mk hs
        clear h2 hs hu
        go_wp2_with fail
        refine (units_Split.calls 1 r 0 0 false _ HS.out).mono ?_
        rintro e w' ⟨rfl, ⟨nd, rfl⟩⟩
        have HO2 := Aside0.mk (pw_own_below HO.out (pw_below_drewN (Below.refl _ wr) nd))
        have HW2 := Aside0.mk (pw_below_drewN HW.out nd)
        have hb2 : W.heap.size ≤ (wr.drewN nd).heap.size := hb0
        clear HO HW hb0
        generalize wr.drewN nd = W2 at HO2 HW2 hb2 ⊢
        go_wp2_with (first | (at_builtin; refine append_nums (w0 := W) W.heap.size rfl (.tmp 29) (.tmp 32) 54 53 .u16 2 rfl Tryd.underlying54 rfl (by decide) u3 xs [IntKind.u16.wrap r] 1 rfl rfl rfl HO2.out HW2.out hb2 (by simp only [List.length_cons, List.length_nil]; omega) ?_; intro v1 w1 HO3 HW3; replace HO3 := Aside0.mk HO3; replace HW3 := Aside0.mk HW3))
        go_roundg (rs.length - (k + 1))
        case measure => omega
        case rel =>
          exact ⟨k + 1, by go_num, by omega, by omega, ⟨by rw [HT.out]; exact HO3.out⟩, HW3⟩
    · have e1 : decide ((k : Int) < (rs.length : Int)) = false := decide_eq_false (by omega)
      obtain rfl : k = rs.length := by omega
      go_wp2_with fail
      go_ret
      refine ⟨_, rfl, ?_, ?_⟩
      · rw [HU.out]
        have := HO.out
        rw [List.take_length] at this
        exact Kd.R_of_own (enc := Value.int .u16) (h1 := fun _ => rfl) (own_weaken this HB.out.size) (fun _ _ => trivial)
      · exact below_then HB.out HB.out.size HW.out

theorem units_To.calls (A0 : Option Addr) (c0 : Nat) (l0 : List Int) (r : List Int) (w : World) (hr0 : Kd.C (Kd.int .u8) w A0 l0.length l0) (hc0 : l0.length ≤ c0) (h : units_To.f l0 = some r) :
    Calls Tryd.prog 31 #[.slice A0 l0.length c0] w fun e w' => ∃ v0_ : Value, e = .returned (v0_) ∧ Kd.R (Kd.int .u16) 53 w' w.heap.size (fun _ => True) v0_ r ∧ Below w.heap.size w w' := by
  unfold units_To.f at h
  by_cases c : l0.length < 35184372088832
  · rw [if_pos c] at h
    rw [← Option.some.inj h]
    exact to_walk A0 c0 l0 w hr0 hc0 c
  · rw [if_neg c] at h; cases h
end Go.Proofs.YtdomggegacgmnaaDoor.PA
