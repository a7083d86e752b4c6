/- galleylaw31.OrderOwn: it answers true. Conditions: the list's texts and their number, and the other text, are together of bulk at most 2^20; bytes. -/
import Derived.Test.YtdomggegacgmnaaDoorGWakes
import Derived.Test.YtdomggegacgmnaaDoorGOwnKit
import Derived.Test.YtdomggegacgmnaaDoorPAx8
import Derived.BigQuiet
import Derived.Deep.QuietTactic
namespace Go.Proofs.YtdomggegacgmnaaDoor.PA
open Go.Sort Go.RowKit Go.Proofs.YtdomggegacgmnaaDoorW.PrintWords Go.Proofs.YtdomggegacgmnaaDoorW.PrintLast Go.Proofs.YtdomggegacgmnaaDoorW.PrintMore

theorem C_block {W W1 : World} {b n : Nat} {xs : List Int} (h : Kd.C (Kd.int .u8) W (some ⟨b, 0, none⟩) n xs) (hb : W1.heap[b]? = W.heap[b]?) : Kd.C (Kd.int .u8) W1 (some ⟨b, 0, none⟩) n xs := by
 obtain ⟨h1, h2, h3⟩ := h
 refine ⟨h1, h2, fun h0 => ?_⟩
 obtain ⟨ad, e, hc⟩ := h3 h0
 obtain rfl := Option.some.inj e
 refine ⟨_, rfl, fun j p hp => ?_⟩
 obtain ⟨c, hl, hk, hcell⟩ := hc j p hp
 refine ⟨c, hl, hk, fun i u hu => (World.cell?_of_block ?_).trans (hcell i u hu)⟩
 have : ((⟨b, 0, none⟩ : Addr).add (j * (Kd.int .u8).sz + i)).block = b := by unfold Addr.add; split <;> rfl
 rw [this]; exact hb
theorem str_ab (x : List Int) : ((strOfNums (x ++ [65, 66])).toList == (strOfNums x ++ (⟨#[65, 66]⟩ : ByteArray)).toList) = true := by
 have : strOfNums (x ++ [65, 66]) = strOfNums x ++ (⟨#[65, 66]⟩ : ByteArray) := by
  apply ByteArray.ext
  unfold strOfNums
  simp
 rw [this]; simp
theorem rdOf_nat (L : List Int) (kk : Nat) (h : kk < L.length) : rdOf 0 L (kk : Int) = L[kk] := by simp [rdOf, List.getD_eq_getElem?_getD, h]
theorem ownF (x : List Int) (h : x.length ≤ 1048576) : galleylaw31_own.f x = some x := by
 unfold galleylaw31_own.f
 simp only [Option.bind_some, List.length_nil, List.nil_append]
 rw [if_pos (by omega)]

set_option maxHeartbeats 64000000 in
set_option maxRecDepth 100000 in
theorem own_walk (k : Nat) (A0 : Option Addr) (c0 : Nat) (l0 : List (List Int)) (A1 : Option Addr) (c1 : Nat) (l1 : List Int) (r : Int) (w : World)
    (hr0 : Kd.C (Kd.slice 5 (Kd.int .u8)) w A0 l0.length l0) (hc0 : l0.length ≤ c0) (hr1 : Kd.C (Kd.int .u8) w A1 l1.length l1) (hc1 : l1.length ≤ c1)
    (hm0 : l0.length ≤ 1048576) (hml : ∀ x ∈ l0, x.length ≤ 1048576) (hm1 : l1.length ≤ 1048576) (_hw0 : ∀ l ∈ l0, ∀ x ∈ l, 0 ≤ x ∧ x ≤ 255) (hw1 : ∀ x ∈ l1, 0 ≤ x ∧ x ≤ 255)
    (hwant : (r = 1 ∨ r = 2 ∨ r = 3) → ∃ os : List Nat, galleyref31_Sort.f k l0 r = some (os.map fun o : Nat => (o : Int)) ∧ os.map (fun o => l0.getD o []) = sortV l0 r ∧ ∀ o ∈ os, o < l0.length) (hL : Laid w) :
    Calls Tryd.prog 10 #[.slice A0 l0.length c0, .slice A1 l1.length c1, .int .i64 r] w fun e w' => e = .returned (.bool true) ∧ Below w.heap.size w w' := by
 have H0 := Aside0.mk hr0
 have H1 := Aside0.mk hr1
 have HL := Aside0.mk hL
 have HC0 := Aside0.mk hc0
 have HC1 := Aside0.mk hc1
 clear hr0 hr1 hL hc0 hc1
 go_enter Tryd.func10, Tryd.ntmps10
 go_wp2_with fail
 refine (galleylaw31_wakes.calls true w rfl HL.out).mono ?_
 rintro e W0 ⟨rfl, hb⟩
 have HB := Aside0.mk hb
 clear hb
 go_wp2_with fail
 go_loopg [7, 8, 9] (l0.length + 1) (fun g v7 v8 v9 W => ∃ (i : Nat) (hs : List (Nat × Nat × Nat)), v9 = .int .i64 i ∧ l0.length - i < g ∧ i ≤ l0.length ∧ Aside0 (Fam W w.heap.size hs (l0.take i)) ∧ Aside0 (hs.Pairwise (fun a b => a.1 ≠ b.1)) ∧
  Aside0 (Kd.R KW 22 W w.heap.size (fun k => True ∧ some k ≠ v8.ownBlock) v7 hs) ∧ Aside0 (Kd.R KI 22 W w.heap.size (fun k => True ∧ some k ≠ v7.ownBlock) v8 hs) ∧ Aside0 (Below w.heap.size w W))
 case atStart => exact ⟨0, [], rfl, by omega, by omega, ⟨Fam_nil _ _⟩, ⟨List.Pairwise.nil⟩, ⟨Kd.R_nil _ _ _ _ _⟩, ⟨Kd.R_nil _ _ _ _ _⟩, HB⟩
 case round =>
  obtain ⟨i, hs, rfl, hg, hi, HF, HP, HW, HI, HB⟩ := hrel
  by_cases ci : i < l0.length
  · have e1 : decide ((i : Int) < (l0.length : Int)) = true := decide_eq_true (by omega)
    obtain ⟨gk', rfl⟩ : ∃ gk', gk = gk' + 1 := ⟨gk - 1, by omega⟩
    obtain ⟨ad, A, c, eA, hx, hlc, hiC⟩ := at_L4 H0.out (i : Int) (by omega) (by omega)
    subst eA
    have hle : rd_L4 l0 (i : Int) = l0[i] := by simp [rd_L4, List.getD_eq_getElem?_getD, ci]
    have hsm := hml l0[i] (List.getElem_mem ci)
    have htk : l0.take (i + 1) = l0.take i ++ [l0[i]] := List.take_succ_eq_append_getElem ci
    rw [hle] at hx hlc hiC
    generalize l0[i] = l at hx hlc hiC hsm htk
    have Hx0 := Aside0.mk (show w.cell? (ad.add i) = some (.slice A l.length c) from hx)
    replace hx : wr.cell? (ad.add i) = some (.slice A l.length c) := (HB.out.cell (World.block_lt_of_cell? w _ hx)).trans hx
    clear hle
    have HX := Aside0.mk (show l0.take (i + 1) = l0.take i ++ [l] from htk)
    clear htk
    go_wp2_with fail
    refine (galleylaw31_own.calls A c l l wr (Kd.C_below hiC HB.out) hlc (ownF l hsm)).mono ?_
    rintro e W1 ⟨v10, rfl, hR, hb⟩
    obtain ⟨A10, c10, rfl⟩ := Kd.R_slice hR
    have HR := Aside0.mk hR
    have Hb := Aside0.mk hb
    clear hR hb
    obtain ⟨i5, hi5, -, -, -⟩ := info_parts info5
    have cut : ∀ (g c : Nat), l.length + 2 ≤ c → ∀ W : World, (Instr.slice 22 (.slice (some ⟨g, 0, none⟩) (l.length + 2) c) none (some (.int .i64 (l.length : Int))) none).run Tryd.prog W = .ok (.slice (some ⟨g, 0, none⟩) l.length c) W :=
     fun g c hc W => (cut_to 22 5 .i64 Tryd.underlying22 hi5 (some ⟨g, 0, none⟩) (l.length + 2) c (l.length : Int) (by omega) (by omega) hc W).trans rfl
    have Hcut := Aside0.mk cut
    have Hx := Aside0.mk hx
    clear cut hx
    go_wp2_with (first
     | ((with_reducible refine gate_builtin (b := .append) (xs := #[.tmp 44, .tmp 45]) rfl ?_); at_builtin; refine append_keep (w0 := wr) wr.heap.size rfl (.tmp 44) (.tmp 45) 22 5 (.int .u8 0) 1 rfl Tryd.underlying22 info5 rfl (by decide) (.slice A10 l.length c10) l.length (encs (Value.int .u8) l) [.int .u8 65, .int .u8 66] 2 rfl (by simp [Value.oneCell']) rfl rfl (Kd.own_of_R HR.out) Hb.out Hb.out.size (by omega) ?_
        intro v1 w1 ho hold hb1 hg1 hat1
        obtain ⟨g, cap, rfl, hbg, hlt⟩ := ho.form (by omega)
        have HRg := Aside0.mk (Kd.R_lower (Kd.R_of_own (enc := Value.int .u8) (h1 := fun _ => rfl) (xs := l ++ [65, 66]) (ok := fun k => k = g) (by simpa [encs] using ho) (fun k hk => by simpa [Value.ownBlock] using hk.symm)) HB.out.size)
        have HFn := Aside0.mk (Fam_below HF.out hb1)
        have HWn := Aside0.mk (Kd.R_below HW.out hb1)
        have HIn := Aside0.mk (Kd.R_below HI.out hb1)
        have HBn := Aside0.mk (below_then HB.out HB.out.size hb1)
        have HLT := Aside0.mk (show (∀ x ∈ hs, x.1 < wr.heap.size) ∧ wr.heap.size ≤ g from ⟨fun x hx => (Fam_mem HF.out x hx).2.1, hbg⟩)
        have hx1 := (hb1.cell (World.block_lt_of_cell? wr _ Hx.out)).trans Hx.out
        have hx := Aside0.mk hx1
        have hcap : l.length + 2 ≤ cap := (Kd.R_reads' HRg.out).2.1
        have hcut := Hcut.out g cap hcap
        clear HF HW HI HB ho hold hb1 hg1 hat1 hx1 Hx hlt hbg hcap)
     | ((with_reducible refine gate_builtin (b := .append) (xs := #[.tmp 47, .tmp 49]) rfl ?_); at_builtin; refine Kd.R_append KW (w0 := w) w.heap.size rfl (.tmp 47) (.tmp 49) 33 22 (.slice none 0 0) 24 rfl Tryd.underlying33 infoB22 rfl (by decide) (by omega) u7 hs (g, l.length, cap) [encW (g, l.length, cap)] (fun k => True ∧ some k ≠ u8.ownBlock) (fun _ => False) rfl rfl rfl (fun _ h => h.elim) ?aF HWn.out HBn.out HBn.out.size (by have := HFn.out.1; simp at this; omega) ?_
        case aF => exact fun k hk => ⟨trivial, fun e => by have := Kd.R_lt HIn.out k e.symm; omega⟩
        intro v7 w2 hw hb2 hg2 hat2
        have HF := Aside0.mk (Fam_grown HFn.out hg2 (Kd.R_typed HWn.out))
        have HI := Aside0.mk (Kd.R_after HIn.out hg2 hat2)
        have HW := Aside0.mk hw
        have HRn := Aside0.mk (Kd.R_over' HRg.out (Kd.R_typed HWn.out) (by decide) hg2)
        have HB := Aside0.mk hb2
        have hx2 : w2.cell? (ad.add i) = some (.slice A l.length c) := by
         refine hg2.cell hx.out (fun e => ?_)
         have h1 := Kd.R_base HWn.out _ e.symm
         have h2 := World.block_lt_of_cell? w _ Hx0.out
         omega
        clear hw hb2 hg2 hat2 HFn HWn HIn HBn HRg hx)
     | ((with_reducible refine gate_builtin (b := .append) (xs := #[.tmp 51, .tmp 59]) rfl ?_); at_builtin; refine Kd.R_append KI (w0 := w) w.heap.size rfl (.tmp 51) (.tmp 59) 33 22 (.slice none 0 0) 24 rfl Tryd.underlying33 infoB22 rfl (by decide) (by omega) u8 hs (g, l.length, cap) [encI (g, l.length, cap)] (fun k => True ∧ some k ≠ v7.ownBlock) (fun _ => False) rfl rfl rfl (fun _ h => h.elim) ?aF HI.out HB.out HB.out.size (by have := HF.out.1; simp at this; omega) ?_
        case aF => exact fun k hk => ⟨trivial, fun e => by have := Kd.R_lt HW.out k e.symm; omega⟩
        intro v8 w3 hi3 hb3 hg3 hat3
        have HFn := Aside0.mk (Fam_grown HF.out hg3 (Kd.R_typed HI.out))
        have HWn := Aside0.mk (Kd.R_after HW.out hg3 hat3)
        have HIn := Aside0.mk hi3
        have HRg := Aside0.mk (Kd.R_over' HRn.out (Kd.R_typed HI.out) (by decide) hg3)
        have HBn := Aside0.mk hb3
        clear hi3 hb3 hg3 hat3 HF HW HI HB HRn))
    go_roundg gk'
    case measure => omega
    case rel =>
     refine ⟨i + 1, hs ++ [(g, l.length, cap)], by go_num, by omega, by omega, ⟨?_⟩, ⟨?_⟩, HWn, HIn, HBn⟩
     · rw [HX.out]
       exact Fam_app HFn.out (g, l.length, cap) l rfl HRg.out
     · refine List.pairwise_append.2 ⟨HP.out, List.pairwise_singleton _ _, fun a ha b hb => ?_⟩
       obtain rfl := List.mem_singleton.1 hb
       have := HLT.out.1 a ha
       have := HLT.out.2
       show a.1 ≠ g
       omega
  · have e1 : decide ((i : Int) < (l0.length : Int)) = false := decide_eq_false (by omega)
    obtain rfl : i = l0.length := by omega
    have HF0 := HF.out
    rw [List.take_length] at HF0
    replace HF0 := Aside0.mk HF0
    have hl : hs.length = l0.length := HF0.out.1
    have HN := Aside0.mk hl
    obtain ⟨A7, c7, rfl⟩ := Kd.R_slice HW.out
    obtain ⟨A8, c8, rfl⟩ := Kd.R_slice HI.out
    clear HF hl hg hi ci
    have HC8 := Aside0.mk (Kd.R_reads' HI.out).2.2
    have HBr := Aside0.mk (Below.refl wr.heap.size wr)
    go_wp2_with (first
     | ((with_reducible refine gate_dst (N := 61) rfl ?_); refine Kd.R_lit KI wr.heap.size 22 ?hg (N := 61) ?hd (xs := ([] : List (Nat × Nat × Nat))) (inner := []) (ok := fun _ => True) (okp := fun _ => True) ?hr ?hp (fun _ hk => hk) trivial HBr.out (Nat.le_refl _) (by simp) ?_; (case hd => rfl); (case hg => rfl); (case hr => first | (go_simp; done) | (go_simp; rfl)); (case hp => exact (Reps.none _ _)); intro v61 w61 ho hb hg_ hnew_; clear hg_ hnew_; replace HBr := Aside0.mk hb; have HO61 := Aside0.mk ho; clear hb ho)
     | ((with_reducible refine gate_builtin (b := .append) (xs := #[.tmp 61, .tmp 62]) rfl ?_); at_builtin; refine Kd.R_append_rows KI (w0 := wr) wr.heap.size rfl (.tmp 61) (.tmp 62) 33 22 (.slice none 0 0) 24 rfl Tryd.underlying33 infoB22 rfl (by decide) (by omega) v61 [] hs A8 hs.length c8 (fun _ => True) (fun _ => False) rfl rfl HO61.out (Kd.C_below HC8.out HBr.out) (fun _ _ h => h) (fun _ h => h.elim) (fun _ _ => trivial) HBr.out HBr.out.size (by have := HN.out; simp only [List.length_nil]; omega) ?_
        intro v63 w63 ho hb hg_ hat
        rw [List.nil_append] at ho
        have HO63 := Aside0.mk ho
        replace HBr := Aside0.mk hb
        have k1 := kc_at w63 #[.int .u8 108, .int .u8 97, .int .u8 115, .int .u8 116] 4 w63.heap.size rfl
        clear ho hb hg_ hat HO61 HC8)
     | ((with_reducible refine gate_builtin (b := .append) (xs := #[.tmp 63, .tmp 66]) rfl ?_); at_builtin; refine Kd.R_append KI (w0 := wr) (W := w63.alloc (litO [108, 97, 115, 116] 4)) wr.heap.size rfl (.tmp 63) (.tmp 66) 33 22 (.slice none 0 0) 24 rfl Tryd.underlying33 infoB22 rfl (by decide) (by omega) v63 hs (w63.heap.size, 4, 4) [encI (w63.heap.size, 4, 4)] (fun _ => True) (fun _ => False) rfl (by rw [alloc1]; rfl) rfl (fun _ h => h.elim) (fun _ _ => trivial) (Kd.R_alloc HO63.out _) (HBr.out.alloc HBr.out.size _) (Nat.le_trans HBr.out.size (by simp)) (by have := HN.out; simp; omega) ?_
        intro v11 w64 ho hb hg hat
        have HLst := Aside0.mk ho
        have Hlast := Aside0.mk (C_block (lit_C w63 [108, 97, 115, 116] 4 4 rfl (by decide)) (hg.block _ (by simp) (fun e => by have := Kd.R_lt HO63.out _ e.symm; omega)))
        replace HBr := Aside0.mk hb
        generalize w63.heap.size = gl at HLst Hlast
        clear ho hb hg hat HO63))
    clear k1
    have HF := Aside0.mk (Fam_below HF0.out HBr.out)
    have HW4 := Aside0.mk (Kd.R_below HW.out HBr.out)
    have HB4 := Aside0.mk (below_then HB.out HB.out.size HBr.out)
    clear HF0 HW HI HB HBr
    obtain ⟨gL, cL, eL, hbL, hlL, -⟩ := Kd.R_form HLst.out (by simp)
    subst eL
    rw [List.length_append, List.length_singleton, HN.out] at HLst ⊢
    rw [HN.out] at HW4
    refine (galleylaw31_own.calls A1 c1 l1 l1 w64 (Kd.C_below H1.out HB4.out) HC1.out (ownF l1 hm1)).mono ?_
    rintro e W5 ⟨v12, rfl, hR, hb⟩
    obtain ⟨A5, c5, rfl⟩ := Kd.R_slice hR
    have HR := Aside0.mk hR
    have Hb := Aside0.mk hb
    clear hR hb
    obtain ⟨i5, hi5, -, -, -⟩ := info_parts info5
    obtain ⟨i22, hi22, -, -, -⟩ := info_parts infoB22
    have hcL : l0.length + 1 ≤ cL := (Kd.R_reads' HLst.out).2.1
    have cutL : ∀ W : World, (Instr.slice 33 (.slice (some ⟨gL, 0, none⟩) (l0.length + 1) cL) none (some (.int .i64 (l0.length : Int))) none).run Tryd.prog W = .ok (.slice (some ⟨gL, 0, none⟩) l0.length cL) W :=
     fun W => (cut_to 33 22 .i64 Tryd.underlying33 hi22 (some ⟨gL, 0, none⟩) (l0.length + 1) cL (l0.length : Int) (by omega) (by omega) hcL W).trans rfl
    have Hi5 := Aside0.mk hi5
    clear hi5 hi22
    go_wp2_with ((with_reducible refine gate_builtin (b := .append) (xs := #[.tmp 69, .tmp 70]) rfl ?_); at_builtin; refine append_keep (w0 := w64) w64.heap.size rfl (.tmp 69) (.tmp 70) 22 5 (.int .u8 0) 1 rfl Tryd.underlying22 info5 rfl (by decide) (.slice A5 l1.length c5) l1.length (encs (Value.int .u8) l1) [.int .u8 65, .int .u8 66] 2 rfl (by simp [Value.oneCell']) rfl rfl (Kd.own_of_R HR.out) Hb.out Hb.out.size (by omega) ?_
                 intro v12 w6 ho hold hb1 hg1 hat1
                 obtain ⟨gF, cF, rfl, hbg, hlt⟩ := ho.form (by omega)
                 have HFull := Aside0.mk (Kd.R_of_own (enc := Value.int .u8) (h1 := fun _ => rfl) (xs := l1 ++ [65, 66]) (ok := fun _ => True) (by simpa [encs] using ho) (fun k hk => trivial))
                 have HF6 := Aside0.mk (Fam_below HF.out hb1)
                 have HW6 := Aside0.mk (Kd.R_below HW4.out hb1)
                 have HL6 := Aside0.mk (Kd.R_below HLst.out hb1)
                 have Hlast6 := Aside0.mk (Kd.C_below Hlast.out hb1)
                 have HB6 := Aside0.mk (below_then HB4.out HB4.out.size hb1)
                 clear ho hold hb1 hg1 hat1 hbg hlt HF HW4 HLst Hlast HB4 HR Hb)
    have hLC : Kd.C (Kd.slice 5 (Kd.int .u8)) w6 (some ⟨gL, 0, none⟩) l0.length l0 := by
     have hT := Kd.R_take HL6.out (m := l0.length) (by have := HN.out; simp; omega)
     rw [List.take_left' HN.out] at hT
     have := (Kd.R_reads' hT).2.2
     rw [HN.out] at this
     exact Fam_C HF6.out this
    obtain ⟨rs, re, hsf, hrsv⟩ : ∃ rs re, order_Sort.f l0 r = some (rs, re) ∧ (((r = 1 ∨ r = 2 ∨ r = 3) ∧ rs = sortV l0 r) ∨ (¬ (r = 1 ∨ r = 2 ∨ r = 3) ∧ rs = [])) := by
     unfold order_Sort.f
     by_cases hr : r = 1 ∨ r = 2 ∨ r = 3
     · have hall : (l0.all small && decide (l0.length < 1099511627776)) = true := by
         simp only [Bool.and_eq_true, List.all_eq_true, decide_eq_true_eq]
         exact ⟨fun x hx => by have := hml x hx; simp only [small, decide_eq_true_eq]; omega, by omega⟩
       rw [if_pos hr, if_pos hall]; exact ⟨_, _, rfl, .inl ⟨hr, rfl⟩⟩
     · rw [if_neg hr]; exact ⟨_, _, rfl, .inr ⟨hr, rfl⟩⟩
    have hrs : rs.length ≤ 1048576 := by
     rcases hrsv with ⟨-, e⟩ | ⟨-, e⟩
     · rw [e]; unfold sortV; rw [(List.mergeSort_perm _ _).length_eq]; exact hm0
     · rw [e]; simp
    have HLr := Aside0.mk (show ∀ x ∈ rs, x.length ≤ 1048576 from fun x hx => by
     rcases hrsv with ⟨-, e⟩ | ⟨-, e⟩
     · rw [e] at hx; exact hml x ((List.mergeSort_perm _ _).mem_iff.1 hx)
     · rw [e] at hx; cases hx)
    have Hrsv := Aside0.mk hrsv
    clear hrsv
    have HSf := Aside0.mk hsf
    have HLC := Aside0.mk hLC
    clear hsf hLC
    refine (order_Sort.calls (some ⟨gL, 0, none⟩) cL l0 r rs re w6 HLC.out (by omega) HSf.out).mono ?_
    rintro e w7 ⟨vs, rfl, hS, hb7⟩
    have HS7 := Aside0.mk hS
    have Hb7 := Aside0.mk hb7
    clear hS hb7
    go_wp2_with fail
    refine (order_Sort.calls (some ⟨gL, 0, none⟩) cL l0 r rs re w7 (Kd.C_below HLC.out Hb7.out) (by omega) HSf.out).mono ?_
    rintro e w8 ⟨vt, rfl, hS, hb8⟩
    have HT8 := Aside0.mk hS
    have Hb8 := Aside0.mk hb8
    clear hS hb8
    have hcF : l1.length + 2 ≤ cF := (Kd.R_reads' HFull.out).2.1
    have cutF : ∀ (m : Nat), m ≤ l1.length → ∀ W : World, (Instr.slice 22 (.slice (some ⟨gF, 0, none⟩) (l1.length + 2) cF) none (some (.int .i64 (m : Int))) none).run Tryd.prog W = .ok (.slice (some ⟨gF, 0, none⟩) m cF) W :=
     fun m hm W => (cut_to 22 5 .i64 Tryd.underlying22 Hi5.out (some ⟨gF, 0, none⟩) (l1.length + 2) cF (m : Int) (by omega) (by omega) hcF W).trans rfl
    have cutB := cutF l1.length (Nat.le_refl _)
    have HcF := Aside0.mk cutF
    clear cutF
    go_wp2_with fail
    have HB8 := Aside0.mk (below_then (below_then HB6.out HB6.out.size Hb7.out) (below_then HB6.out HB6.out.size Hb7.out).size Hb8.out)
    have HF8 := Aside0.mk (Fam_below (Fam_below HF6.out Hb7.out) Hb8.out)
    have HW8 := Aside0.mk (Kd.R_below (Kd.R_below HW6.out Hb7.out) Hb8.out)
    have HL8 := Aside0.mk (Kd.R_below (Kd.R_below HL6.out Hb7.out) Hb8.out)
    have Hlast8 := Aside0.mk (Kd.C_below (Kd.C_below Hlast6.out Hb7.out) Hb8.out)
    have HFull8 := Aside0.mk (Kd.R_below (Kd.R_below HFull.out Hb7.out) Hb8.out)
    have HS8 := Aside0.mk (Kd.S_below (Kd.S_mono (ok' := fun k => k < w7.heap.size) (Kd.S_bound HS7.out) (fun k hk => hk.2.2.1)) Hb8.out)
    replace HT8 := Aside0.mk (Kd.S_mono (ok' := fun k => w7.heap.size ≤ k ∧ k < w8.heap.size) (Kd.S_bound HT8.out) (fun k hk => ⟨hk.2.1, hk.2.2.1⟩))
    have hFC : ∀ m, m ≤ l1.length → Kd.C (Kd.int .u8) w8 (some ⟨gF, 0, none⟩) m (l1.take m) := fun m hm => by
     have hT := Kd.R_take HFull8.out (m := m) (by simp; omega)
     rw [List.take_append_of_le_length hm] at hT
     have := (Kd.R_reads' hT).2.2
     rwa [List.length_take, Nat.min_eq_left hm] at this
    have HFC := Aside0.mk hFC
    clear hFC
    refine (order_Fold.calls (l1.length + 1) (some ⟨gF, 0, none⟩) cF l1 (l1.map fo) w8 (by have := HFC.out l1.length (Nat.le_refl _); rwa [List.take_length] at this) (by omega) (order_fold l1 hw1 (by omega) _ (Nat.le_refl _))).mono ?_
    rintro e w9 ⟨vf, rfl, hR, hb9⟩
    have Hf9 := Aside0.mk hR
    have Hb9 := Aside0.mk hb9
    have HFlt := Aside0.mk (show gF < w6.heap.size from Kd.R_lt HFull.out gF (by simp [Value.ownBlock]))
    have HHlt := Aside0.mk (show ∀ x ∈ hs, x.1 < w6.heap.size from fun x hx => (Fam_mem HF6.out x hx).2.1)
    have H7lt := Aside0.mk (show ∀ k, (Value.slice A7 l0.length c7).ownBlock = some k → k < w6.heap.size from Kd.R_lt HW6.out)
    clear hR hb9 HF6 HW6 HL6 Hlast6 HFull HS7 HLC
    have ex1 : ∀ m, m ≤ l1.length → ∃ x y, order_Compare.f l1 (l1.take m) r = some (x, y) := fun m hm => by
     unfold order_Compare.f
     have hsm : (small l1 && small (l1.take m)) = true := by simp only [small, Bool.and_eq_true, decide_eq_true_eq, List.length_take]; omega
     by_cases h : r = 1 ∨ r = 2 ∨ r = 3
     · rw [if_pos h, if_pos hsm]; exact ⟨_, _, rfl⟩
     · rw [if_neg h]; exact ⟨_, _, rfl⟩
    obtain ⟨mh, hmh⟩ : ∃ mh, mh = l1.length / 2 := ⟨_, rfl⟩
    have hmle : mh ≤ l1.length := by omega
    obtain ⟨x, y, hxy⟩ := ex1 mh hmle
    have HCm : ∀ (m : Nat), m ≤ l1.length → ∀ (W : World), Below w8.heap.size w8 W → Kd.C (Kd.int .u8) W (some ⟨gF, 0, none⟩) (l1.take m).length (l1.take m) := fun m hm W hb => by
     have := Kd.C_below (HFC.out m hm) hb
     rwa [List.length_take, Nat.min_eq_left hm]
    have HCa : ∀ (W : World), Below w8.heap.size w8 W → Kd.C (Kd.int .u8) W (some ⟨gF, 0, none⟩) l1.length l1 := fun W hb => by
     have := HCm l1.length (Nat.le_refl _) W hb
     rwa [List.take_length] at this
    have hl2 : (l1.take (mh)).length = mh := by rw [List.length_take]; omega
    have hc : ∀ d os, Calls Tryd.prog 12 #[.slice (some ⟨gF, 0, none⟩) l1.length cF, .slice (some ⟨gF, 0, none⟩) (mh) cF, .int .i64 r] (grow (redrawn w9 d) os) fun e w' => e = .returned (.tuple #[.int .i64 x, .int .i64 y]) ∧ ∃ p : Regrown, w' = grow (redrawn w9 p.d) p.os := fun d os => by
     have hb := below_then Hb9.out Hb9.out.size (below_regrown w9 d os)
     have := order_Compare.calls (some ⟨gF, 0, none⟩) cF l1 (some ⟨gF, 0, none⟩) cF (l1.take (mh)) r x y (grow (redrawn w9 d) os) (HCa _ hb) (by omega) (HCm _ (by omega) _ hb) (by rw [hl2]; omega) hxy
     rw [hl2] at this
     exact Calls.regrown_of this
    have cutH := HcF.out (mh) (by omega)
    have Hxy := Aside0.mk hxy
    have HCm := Aside0.mk HCm
    have HCa := Aside0.mk HCa
    have Hl2 := Aside0.mk hl2
    clear ex1 hxy hl2
    have q1 : Int.tdiv (l1.length : Int) 2 = (mh : Int) := by rw [Int.tdiv_eq_ediv_of_nonneg (by omega)]; omega
    have q2 : IntKind.i64.wrap (mh : Int) = (mh : Int) := by rw [IntKind.wrap_i64]; omega
    clear hmh
    go_wp2_with fail
    refine wp_region_quiet_below (by kernel_rfl) (by kernel_rfl) ?_
    repeat (quiet_step (refine hc _ _))
    refine wpQuiet_nil ?_
    intro _ hw'
    obtain ⟨⟨nq, osq⟩, hw''⟩ := hw'
    subst hw''
    have hb10 := below_regrown w9 nq osq
    generalize grow (redrawn w9 nq) osq = w10 at hb10 ⊢
    have Hb10 := Aside0.mk (below_then Hb9.out Hb9.out.size hb10)
    have Hf10 := Aside0.mk (Kd.R_below Hf9.out hb10)
    clear hc hb10 cutH Hf9
    obtain ⟨z, hz⟩ : ∃ z, order_Common.f l1 l1 = some z := by unfold order_Common.f; rw [if_pos (by omega)]; exact ⟨_, rfl⟩
    have hc : ∀ d os, Calls Tryd.prog 19 #[.slice (some ⟨gF, 0, none⟩) l1.length cF, .slice (some ⟨gF, 0, none⟩) l1.length cF] (grow (redrawn w10 d) os) fun e w' => e = .returned (.int .i64 z) ∧ ∃ p : Regrown, w' = grow (redrawn w10 p.d) p.os := fun d os => by
     have hb := below_then Hb10.out Hb10.out.size (below_regrown w10 d os)
     exact Calls.regrown_of (order_Common.calls (some ⟨gF, 0, none⟩) cF l1 (some ⟨gF, 0, none⟩) cF l1 z (grow (redrawn w10 d) os) (HCa.out _ hb) (by omega) (HCa.out _ hb) (by omega) hz (HL.out.below (below_then HB8.out HB8.out.size hb)))
    go_wp2_with fail
    refine wp_region_quiet_below (by kernel_rfl) (by kernel_rfl) ?_
    repeat (quiet_step (refine hc _ _))
    refine wpQuiet_nil ?_
    intro _ hw'
    obtain ⟨⟨nq, osq⟩, hw''⟩ := hw'
    subst hw''
    have hb11 := below_regrown w10 nq osq
    generalize grow (redrawn w10 nq) osq = w11 at hb11 ⊢
    have Hb11 := Aside0.mk (below_then Hb10.out Hb10.out.size hb11)
    have Hf11 := Aside0.mk (Kd.R_below Hf10.out hb11)
    clear hc hb11 Hf10 hz
    obtain ⟨q, hq⟩ : ∃ q, order_Agree.f l1 (l1.take mh) = some q := by
     have ex : ∀ r', ∃ x y, order_Compare.f l1 (l1.take mh) r' = some (x, y) := fun r' => by
      unfold order_Compare.f
      have hsm : (small l1 && small (l1.take mh)) = true := by simp only [small, Bool.and_eq_true, decide_eq_true_eq, List.length_take]; omega
      by_cases h : r' = 1 ∨ r' = 2 ∨ r' = 3
      · rw [if_pos h, if_pos hsm]; exact ⟨_, _, rfl⟩
      · rw [if_neg h]; exact ⟨_, _, rfl⟩
     obtain ⟨x1, y1, h1⟩ := ex 1
     obtain ⟨x2, y2, h2⟩ := ex 2
     obtain ⟨x3, y3, h3⟩ := ex 3
     unfold order_Agree.f
     rw [h1, h2, h3]
     simp only [Option.bind_some]
     split <;> exact ⟨_, rfl⟩
    have hc : ∀ d os, Calls Tryd.prog 15 #[.slice (some ⟨gF, 0, none⟩) l1.length cF, .slice (some ⟨gF, 0, none⟩) mh cF] (grow (redrawn w11 d) os) fun e w' => e = .returned (.bool q) ∧ ∃ p : Regrown, w' = grow (redrawn w11 p.d) p.os := fun d os => by
     have hb := below_then Hb11.out Hb11.out.size (below_regrown w11 d os)
     have := order_Agree.calls (some ⟨gF, 0, none⟩) cF l1 (some ⟨gF, 0, none⟩) cF (l1.take mh) q (grow (redrawn w11 d) os) (HCa.out _ hb) (by omega) (HCm.out _ hmle _ hb) (by rw [Hl2.out]; omega) hq
     rw [Hl2.out] at this
     exact Calls.regrown_of this
    have cutH := HcF.out mh hmle
    go_wp2_with fail
    refine wp_region_quiet_below (by kernel_rfl) (by kernel_rfl) ?_
    repeat (quiet_step (refine hc _ _))
    refine wpQuiet_nil ?_
    intro _ hw'
    obtain ⟨⟨nq, osq⟩, hw''⟩ := hw'
    subst hw''
    have hb12 := below_regrown w11 nq osq
    generalize grow (redrawn w11 nq) osq = w12 at hb12 ⊢
    have Hb12 := Aside0.mk (below_then Hb11.out Hb11.out.size hb12)
    have Hf12 := Aside0.mk (Kd.R_below Hf11.out hb12)
    clear hc hb12 Hf11 hq cutH cutB cutL q1 q2 Hb9 Hb10 Hb11 HCa HCm Hxy Hl2 hmle
    have HCW := Aside0.mk (Fam_W HF8.out (Kd.R_reads' HW8.out).2.2)
    rw [HN.out] at HCW
    have HCL : Kd.C (Kd.slice 5 (Kd.int .u8)) w8 (some ⟨gL, 0, none⟩) l0.length l0 := by
     have hT := Kd.R_take HL8.out (m := l0.length) (by have := HN.out; simp; omega)
     rw [List.take_left' HN.out] at hT
     have := (Kd.R_reads' hT).2.2
     rw [HN.out] at this
     exact Fam_C HF8.out this
    have HCL := Aside0.mk HCL
    have Hst := Aside0.mk (show ∀ x : List Int, ((strOfNums (x ++ [65, 66])).toList == (strOfNums x ++ (⟨#[65, 66]⟩ : ByteArray)).toList) = true from str_ab)
    clear HcF
    go_wp2_with fail
    go_loopg [18] (l0.length + 1) (fun g v18 W => ∃ i : Nat, v18 = .int .i64 i ∧ l0.length - i < g ∧ i ≤ l0.length ∧ Aside0 (Below w12.heap.size w12 W))
    case atStart => exact ⟨0, rfl, by omega, by omega, ⟨Below.refl _ _⟩⟩
    case round =>
     obtain ⟨i, rfl, hg2, hi2, HBr⟩ := hrel
     by_cases ci : i < l0.length
     · have e1 : decide ((i : Int) < (l0.length : Int)) = true := decide_eq_true (by omega)
       obtain ⟨gk', rfl⟩ : ∃ gk', gk = gk' + 1 := ⟨gk - 1, by omega⟩
       have HB8r := Aside0.mk (below_then Hb12.out Hb12.out.size HBr.out)
       have HB0r := Aside0.mk (below_then HB8.out HB8.out.size HB8r.out)
       obtain ⟨ad, A, c, eA, hx, hlc, hiC⟩ := at_L4 H0.out (i : Int) (by omega) (by omega)
       obtain ⟨adW, AW, cW, eW, hxW, hlW, hiW⟩ := at_L4 HCW.out (i : Int) (by omega) (by omega)
       obtain ⟨adL, AL, cLx, eL, hxL, hlx, hiL⟩ := at_L4 HCL.out (i : Int) (by omega) (by omega)
       subst eA eW
       obtain rfl := (Option.some.inj eL).symm
       have hle : rd_L4 l0 (i : Int) = l0[i] := by simp [rd_L4, List.getD_eq_getElem?_getD, ci]
       have hlw : rd_L4 (l0.map (fun x => x ++ [65, 66])) (i : Int) = l0[i] ++ [65, 66] := by simp [rd_L4, List.getD_eq_getElem?_getD, ci]
       rw [hle] at hx hlc hiC hxL hlx hiL
       rw [hlw] at hxW hlW hiW
       clear hle hlw eL
       have hsm := hml l0[i] (List.getElem_mem ci)
       generalize l0[i] = l at hx hlc hiC hxL hlx hiL hxW hlW hiW hsm
       replace hx : wr.cell? (ad.add i) = some (.slice A l.length c) := (HB0r.out.cell (World.block_lt_of_cell? w _ hx)).trans hx
       replace hxL : wr.cell? ⟨gL, i, none⟩ = some (.slice AL l.length cLx) := by
        have : wr.cell? ((⟨gL, 0, none⟩ : Addr).add i) = some (.slice AL l.length cLx) := (HB8r.out.cell (World.block_lt_of_cell? w8 _ hxL)).trans hxL
        rwa [add_plain] at this
       have b1 : (i : Int) < ((l0.length + 1 : Nat) : Int) := by omega
       have b2 : (i : Int) < (l0.length : Int) + 1 := by omega
       have b3 : i < l0.length + 1 := by omega
       have hlen2 : (l ++ [65, 66]).length = l.length + 2 := by simp
       rw [hlen2] at hxW
       replace hxW : wr.cell? (adW.add i) = some (.slice AW (l.length + 2) cW) := (HB8r.out.cell (World.block_lt_of_cell? w8 _ hxW)).trans hxW
       have v0 : ∀ n, (convert 22 9 (.slice A l.length c)).run Tryd.prog (wr.drewN n) = .ok (.string (strOfNums l)) (wr.drewN n) := fun n => Kd.C_string (c := c) Tryd.underlying22 Tryd.underlying5 Tryd.underlying9 (Kd.C_drewN (Kd.C_below hiC HB0r.out) n)
       have v1 : ∀ n, (convert 22 9 (.slice AL l.length cLx)).run Tryd.prog (wr.drewN n) = .ok (.string (strOfNums l)) (wr.drewN n) := fun n => Kd.C_string (c := cLx) Tryd.underlying22 Tryd.underlying5 Tryd.underlying9 (Kd.C_drewN (Kd.C_below hiL HB8r.out) n)
       have v2 : ∀ n, (convert 22 9 (.slice AW (l.length + 2) cW)).run Tryd.prog (wr.drewN n) = .ok (.string (strOfNums (l ++ [65, 66]))) (wr.drewN n) := fun n => by
        have := Kd.C_string (P := Tryd.prog) (c := cW) Tryd.underlying22 Tryd.underlying5 Tryd.underlying9 (Kd.C_drewN (Kd.C_below hiW HB8r.out) n)
        rwa [hlen2] at this
       have hs := Hst.out l
       clear hlen2 hiC hiW hiL hlc hlW hlx
       generalize strOfNums (l ++ [65, 66]) = u2 at v2 hs
       have hadd : ∀ W : World, (Op.stringOp .add (strOfNums l) (⟨#[65, 66]⟩ : ByteArray)).run Tryd.prog W = .ok (.string (strOfNums l ++ (⟨#[65, 66]⟩ : ByteArray))) W := fun W => run_string_add_sum W _ _ (by rw [strOfNums_size]; have : (⟨#[65, 66]⟩ : ByteArray).size = 2 := rfl; omega)
       generalize strOfNums l = u1 at v0 v1 hs hadd
       generalize u1 ++ (⟨#[65, 66]⟩ : ByteArray) = u3 at hs hadd
       have hs1 : (u1.toList == u1.toList) = true := by simp
       go_wp2_with fail
       go_quiet (fail)
       go_wp2_with fail
       go_roundg gk'
       case measure => omega
       case rel => exact ⟨i + 1, by go_num, by omega, by omega, ⟨pw_below_drewN HBr.out _⟩⟩
     · have e1 : decide ((i : Int) < (l0.length : Int)) = false := decide_eq_false (by omega)
       clear hg2 hi2
       have HB8r := Aside0.mk (below_then Hb12.out Hb12.out.size HBr.out)
       have Hf := Aside0.mk (Kd.R_below Hf12.out HBr.out)
       clear Hf12 HBr Hb12
       obtain ⟨As, cs, rfl⟩ := Kd.S_slice HS8.out
       obtain ⟨At, ct, rfl⟩ := Kd.S_slice HT8.out
       have hxl : wr.cell? ⟨gL, l0.length, none⟩ = some (.slice (some ⟨gl, 0, none⟩) 4 4) := by
        obtain ⟨h1, -, h3⟩ := (Kd.R_reads' HL8.out).2.2
        obtain ⟨ad, ea, hc⟩ := h3 (by simp)
        obtain rfl := Option.some.inj ea
        obtain ⟨c, -, hk, hcell⟩ := hc l0.length (gl, 4, 4) (by rw [List.getElem?_append_right (by have := HN.out; omega), HN.out]; simp)
        have hk : c = [encI (gl, 4, 4)] := hk
        subst hk
        have := hcell 0 _ rfl
        rw [show KI.sz = 1 from rfl, Nat.mul_one, Nat.add_zero, add_plain] at this
        exact (HB8r.out.cell (World.block_lt_of_cell? w8 _ this)).trans this
       have v0 : (convert 22 9 (.slice (some ⟨gl, 0, none⟩) 4 4)).run Tryd.prog wr = .ok (.string (strOfNums [108, 97, 115, 116])) wr := Kd.C_string (c := 4) Tryd.underlying22 Tryd.underlying5 Tryd.underlying9 (Kd.C_below Hlast8.out HB8r.out)
       have v1 : (convert 22 9 (.slice A1 l1.length c1)).run Tryd.prog wr = .ok (.string (strOfNums l1)) wr := Kd.C_string (c := c1) Tryd.underlying22 Tryd.underlying5 Tryd.underlying9 (Kd.C_below H1.out (below_then HB8.out HB8.out.size HB8r.out))
       have v2 : (convert 22 9 (.slice (some ⟨gF, 0, none⟩) (l1.length + 2) cF)).run Tryd.prog wr = .ok (.string (strOfNums (l1 ++ [65, 66]))) wr :=
        own_string (P := Tryd.prog) Tryd.underlying22 Tryd.underlying5 Tryd.underlying9 (Kd.own_of_R (Kd.R_below HFull8.out HB8r.out))
       have hs := Hst.out l1
       have hadd : ∀ W : World, (Op.stringOp .add (strOfNums l1) (⟨#[65, 66]⟩ : ByteArray)).run Tryd.prog W = .ok (.string (strOfNums l1 ++ (⟨#[65, 66]⟩ : ByteArray))) W := fun W => run_string_add_sum W _ _ (by rw [strOfNums_size]; have : (⟨#[65, 66]⟩ : ByteArray).size = 2 := rfl; omega)
       have hla : ((strOfNums [108, 97, 115, 116]).toList == (⟨#[108, 97, 115, 116]⟩ : ByteArray).toList) = true := by decide +kernel
       have hla2 : (strOfNums [108, 97, 115, 116]).toList = [108, 97, 115, 116] := by decide +kernel
       generalize strOfNums [108, 97, 115, 116] = u4 at v0 hla hla2
       generalize strOfNums (l1 ++ [65, 66]) = u2 at v2 hs
       generalize strOfNums l1 = u1 at v1 hs hadd
       generalize u1 ++ (⟨#[65, 66]⟩ : ByteArray) = u3 at hs hadd
       have b1 : (l0.length : Int) < ((l0.length + 1 : Nat) : Int) := by omega
       have b2 : (l0.length : Int) < (l0.length : Int) + 1 := by omega
       have b3 : l0.length < l0.length + 1 := by omega
       obtain ⟨Af, cf, rfl⟩ := Kd.R_slice Hf.out
       have hmf : (l1.map fo).length = l1.length := by simp
       rw [hmf] at Hf ⊢
       go_wp2_with fail
       clear v0 v1 v2 hs hadd hla hla2 b1 b2 b3 hxl hmf
       have HBf := HB8r
       go_loopg [180] (l1.length + 1) (fun g v180 W => ∃ (i : Nat) (xs : List Int), v180 = .int .i64 i ∧ l1.length - i < g ∧ i ≤ l1.length ∧ xs.length = l1.length ∧ Aside0 (Kd.R (Kd.int .u8) 5 W w8.heap.size (fun _ => True) (.slice Af l1.length cf) xs) ∧ Aside0 (Below w8.heap.size w8 W))
       case atStart => exact ⟨0, l1.map fo, rfl, by omega, by omega, by simp, Hf, HBf⟩
       case round =>
        clear HBf Hf HB8r
        obtain ⟨i, xs, rfl, hg2, hi2, hxs, HX, HBr⟩ := hrel
        by_cases ci : i < l1.length
        · obtain ⟨gk', rfl⟩ : ∃ gk', gk = gk' + 1 := ⟨gk - 1, by omega⟩
          obtain ⟨g, cap, eg, hbg, hlg, -⟩ := Kd.R_form HX.out (by omega)
          injection eg with e1' e2' e3'
          subst e1' e3'
          have HX2 := HX.out
          rw [← hxs] at HX2
          obtain ⟨hx, hf⟩ := Kd.R_celln 0 HX2 (i : Int) (by omega) (by omega)
          replace hx : wr.cell? ⟨g, i, none⟩ = some (.int .u8 (rdOf 0 xs (i : Int))) := hx
          replace hf : wr.frozen? ⟨g, i, none⟩ = false := hf
          have hput := Aside0.mk (show Kd.R (Kd.int .u8) 5 (wr.setCell ⟨g, i, none⟩ (.int .u8 42)) w8.heap.size (fun _ => True) (.slice (some ⟨g, 0, none⟩) xs.length cf) (xs.set i 42) from (Kd.R_put HX2 (i : Int) 42).1)
          have Hbg := Aside0.mk hbg
          clear HX2 hbg hlg e2'
          have e1 : decide ((i : Int) < (l1.length : Int)) = true := decide_eq_true (by omega)
          go_wp2_with fail
          go_roundg gk'
          case measure => omega
          case rel =>
           refine ⟨i + 1, xs.set i 42, by go_num, by omega, by omega, by simp [hxs], ⟨?_⟩, ⟨HBr.out.setCell Hbg.out _⟩⟩
           have := hput.out
           rwa [hxs] at this
        · have e1 : decide ((i : Int) < (l1.length : Int)) = false := decide_eq_false (by omega)
          have HXb := Aside0.mk (show Kd.R (Kd.int .u8) 5 wr w8.heap.size (fun _ => True) (.slice Af xs.length cf) xs from by rw [hxs]; exact HX.out)
          have HXL := Aside0.mk hxs
          rw [← hxs]
          go_wp2_with fail
          go_loopg [17, 20] 41 (fun g v17 v20 W => ∃ (i : Nat) (ys : List Int), v20 = .int .i64 i ∧ 40 - i < g ∧ i ≤ 40 ∧ ys.length = l1.length + i ∧ Aside0 (Kd.R (Kd.int .u8) 5 W w8.heap.size (fun _ => True) v17 ys) ∧ Aside0 (Below w8.heap.size w8 W))
          case atStart => exact ⟨0, xs, rfl, by omega, by omega, by omega, HXb, HBr⟩
          case round =>
           clear HXb HBr HX hxs hg2 hi2 ci
           obtain ⟨j, ys, rfl, hg3, hj3, hys, HY, HBr⟩ := hrel
           by_cases cj : j < 40
           · have e1 : decide ((j : Int) < 40) = true := decide_eq_true (by omega)
             obtain ⟨gk', rfl⟩ : ∃ gk', gk = gk' + 1 := ⟨gk - 1, by omega⟩
             go_wp2_with ((with_reducible refine gate_builtin (b := .append) (xs := #[.tmp 191, .tmp 192]) rfl ?_); at_builtin; refine Kd.R_append (Kd.int .u8) (w0 := w8) w8.heap.size rfl (.tmp 191) (.tmp 192) 22 5 (.int .u8 0) 1 rfl Tryd.underlying22 info5 rfl (by decide) (by omega) u17 ys 43 [.int .u8 43] (fun _ => True) (fun _ => False) rfl rfl rfl (fun _ h => h.elim) (fun _ _ => trivial) HY.out HBr.out HBr.out.size (by omega) ?_
                          intro v17 w13 hy3 hb3 hg3' hat3
                          have HYn := Aside0.mk hy3
                          have HBn := Aside0.mk hb3
                          clear hy3 hb3 hg3' hat3 HY HBr)
             go_roundg gk'
             case measure => omega
             case rel => exact ⟨j + 1, ys ++ [43], by go_num, by omega, by omega, by simp; omega, HYn, HBn⟩
           · have e1 : decide ((j : Int) < 40) = false := decide_eq_false (by omega)
             clear HY hys hg3 hj3
             have HSr := Aside0.mk (Kd.S_below HS8.out HBr.out)
             have HB6r : Below w6.heap.size w8 wr := ⟨HBr.out.os, HBr.out.tape, HBr.out.output, HBr.out.size, fun k hk => HBr.out.block k (Nat.lt_of_lt_of_le hk (below_then Hb7.out Hb7.out.size Hb8.out).size)⟩
             have HB6r := Aside0.mk HB6r
             have HKr := Aside0.mk (show ∀ k, w7.heap.size ≤ k → k < w8.heap.size → wr.heap[k]? = w8.heap[k]? from fun k _ hk => HBr.out.block k hk)
             clear HBr
             go_wp2_with fail
             go_loopg [196] (rs.length + 1) (fun g v196 W => ∃ (i : Nat) (ys : List (List Int)), v196 = .int .i64 i ∧ rs.length - i < g ∧ i ≤ rs.length ∧ ys.length = rs.length ∧ Aside0 (∀ j x, j < i → x ∈ ys.getD j [] → x = ((j : Int) + 1) % 256) ∧ Aside0 (∀ x ∈ ys, x.length ≤ 1048576) ∧
              Aside0 (Kd.S (Kd.slice 5 (Kd.int .u8)) 22 W w6.heap.size (fun k => k < w7.heap.size) (.slice As rs.length cs) ys) ∧ Aside0 (Below w6.heap.size w8 W) ∧ Aside0 (∀ k, w7.heap.size ≤ k → k < w8.heap.size → W.heap[k]? = w8.heap[k]?))
             case atStart => exact ⟨0, rs, rfl, by omega, by omega, rfl, ⟨fun j x h => by omega⟩, HLr, HSr, HB6r, HKr⟩
             case round =>
              clear HSr HB6r HKr cj
              obtain ⟨i, ys, rfl, hg3, hi3, hys, HZ, HLb, HY, HB6r, HKr⟩ := hrel
              by_cases ci2 : i < rs.length
              · have e1 : decide ((i : Int) < (rs.length : Int)) = true := decide_eq_true (by omega)
                obtain ⟨gk', rfl⟩ : ∃ gk', gk = gk' + 1 := ⟨gk - 1, by omega⟩
                have HYl := HY.out
                rw [← hys] at HYl
                obtain ⟨gs, cap, eg, -, -, -⟩ := Kd.S_form HYl (by omega)
                clear HYl
                injection eg with e1' e2' e3'
                subst e1' e3'
                clear e2'
                obtain ⟨xi, hxi⟩ : ∃ xi, xi = ys.getD i [] := ⟨_, rfl⟩
                have hcell : ∃ A c, wr.cell? ⟨gs, i, none⟩ = some (.slice A xi.length c) := by
                 obtain ⟨oki, c, hcl, ⟨v, hv, hR⟩, hcc, -, -⟩ := Kd.S_borrow HY.out [] (i : Int) (by omega) (by omega)
                 subst hv
                 obtain ⟨A, c, rfl⟩ := Kd.R_slice hR
                 have := hcc 0 _ rfl
                 rw [show (Kd.slice 5 (Kd.int .u8)).sz = 1 from rfl, Nat.mul_one, Nat.add_zero, add_plain] at this
                 exact ⟨A, c, by rw [hxi]; exact this⟩
                obtain ⟨A, ca, hcell⟩ := hcell
                have hxb : xi.length ≤ 1048576 := by
                 rw [hxi]
                 exact HLb.out _ (by rw [List.getD_eq_getElem?_getD, List.getElem?_eq_getElem (by omega : i < ys.length)]; exact List.getElem_mem _)
                have Hxi := Aside0.mk hxi
                clear hxi
                go_wp2_with fail
                clear hcell
                go_loopg [204] (xi.length + 1) (fun g v204 W => ∃ (kk : Nat) (zs : List (List Int)), v204 = .int .i64 kk ∧ xi.length - kk < g ∧ kk ≤ xi.length ∧ zs.length = rs.length ∧ (zs.getD i []).length = xi.length ∧ Aside0 (∀ j x, j < i → x ∈ zs.getD j [] → x = ((j : Int) + 1) % 256) ∧ Aside0 (∀ q, q < kk → (zs.getD i []).getD q 0 = ((i : Int) + 1) % 256) ∧ Aside0 (∀ x ∈ zs, x.length ≤ 1048576) ∧
                 Aside0 (Kd.S (Kd.slice 5 (Kd.int .u8)) 22 W w6.heap.size (fun k => k < w7.heap.size) (.slice (some ⟨gs, 0, none⟩) rs.length cs) zs) ∧ Aside0 (Below w6.heap.size w8 W) ∧ Aside0 (∀ k, w7.heap.size ≤ k → k < w8.heap.size → W.heap[k]? = w8.heap[k]?))
                case atStart => exact ⟨0, ys, rfl, by omega, by omega, hys, by rw [Hxi.out], HZ, ⟨fun q h => by omega⟩, HLb, HY, HB6r, HKr⟩
                case round =>
                 clear HY HB6r HKr HZ HLb
                 obtain ⟨kk, zs, rfl, hg4, hk4, hzs, hzl, HZ, HZ2, HLb, HY, HB6r, HKr⟩ := hrel
                 by_cases ck : kk < xi.length
                 · obtain ⟨gk'', rfl⟩ : ∃ gk'', gk = gk'' + 1 := ⟨gk - 1, by omega⟩
                   have e2 : decide ((kk : Int) < (xi.length : Int)) = true := decide_eq_true (by omega)
                   obtain ⟨oki, c, hcl, ⟨v, hv, hR⟩, hcc, hoki, hback⟩ := Kd.S_borrow HY.out [] (i : Int) (by omega) (by omega)
                   subst hv
                   rw [show (i : Int).toNat = i from rfl] at hR hcc hback
                   obtain ⟨g, cap, rfl, hbg, hlg, -⟩ := Kd.R_form hR (by omega)
                   have hcell := hcc 0 _ rfl
                   rw [show (Kd.slice 5 (Kd.int .u8)).sz = 1 from rfl, Nat.mul_one, Nat.add_zero, add_plain, hzl] at hcell
                   have hcell2 : wr.cell? ⟨gs, i, none⟩ = some (.slice (some ⟨g, 0, none⟩) xi.length cap) := hcell
                   obtain ⟨hx, hf⟩ := Kd.R_celln 0 hR (kk : Int) (by omega) (by rw [hzl]; omega)
                   replace hx : wr.cell? ⟨g, kk, none⟩ = some (.int .u8 (rdOf 0 (zs.getD i []) (kk : Int))) := hx
                   replace hf : wr.frozen? ⟨g, kk, none⟩ = false := hf
                   obtain ⟨z, hz⟩ : ∃ z : Int, z = ((i : Int) + 1) % 256 := ⟨_, rfl⟩
                   have q1 : IntKind.i64.wrap ((i : Int) + 1) = (i : Int) + 1 := by rw [IntKind.wrap_i64]; omega
                   have q2 : IntKind.u8.wrap ((i : Int) + 1) = z := by rw [hz]; simp [IntKind.wrap, IntKind.bits, IntKind.signed]
                   have hput := Kd.R_put hR (kk : Int) z
                   have hokg : oki g := hR.1 g (by simp [Value.ownBlock])
                   have HS1 := Aside0.mk (show Kd.S (Kd.slice 5 (Kd.int .u8)) 22 (wr.setCell ⟨g, kk, none⟩ (.int .u8 z)) w6.heap.size (fun k => k < w7.heap.size) (.slice (some ⟨gs, 0, none⟩) rs.length cs) (zs.set i ((zs.getD i []).set kk z)) from
                    hback hput.2 (fun k e => by injection e with e; rw [← e]; exact hokg) ⟨_, rfl, hput.1⟩)
                   have Hg := Aside0.mk (show w6.heap.size ≤ g ∧ g < w7.heap.size from ⟨hbg, (hoki g hokg).1⟩)
                   have Hz := Aside0.mk hz
                   clear hR hcc hback hput hokg hoki hbg hlg hz hcl
                   go_wp2_with fail
                   go_roundg gk''
                   case measure => omega
                   case rel =>
                    refine ⟨kk + 1, zs.set i ((zs.getD i []).set kk z), by go_num, by omega, by omega, by simp [hzs], by rw [setD_self _ _ _ _ (by omega)]; simpa using hzl, ⟨fun j x hj hx => ?_⟩, ⟨fun q hq => ?_⟩, ⟨fun x hx => ?_⟩, HS1, ⟨HB6r.out.setCell Hg.out.1 _⟩, ⟨fun k hk1 hk2 => ?_⟩⟩
                    · rw [setD_ne _ _ _ _ _ (by omega)] at hx
                      exact HZ.out j x hj hx
                    · rw [setD_self _ _ _ _ (by omega)]
                      by_cases eq : kk = q
                      · subst eq
                        rw [setD_self _ _ _ _ (by omega), Hz.out]
                      · rw [setD_ne _ _ _ _ _ eq]
                        exact HZ2.out q (by omega)
                    · rcases List.mem_or_eq_of_mem_set hx with h | h
                      · exact HLb.out x h
                      · rw [h, List.length_set, hzl]; exact hxb
                    · exact (Below.heap_setCell wr ⟨g, kk, none⟩ _ k (by have := Hg.out.2; show k ≠ g; omega)).trans (HKr.out k hk1 hk2)
                 · have e2 : decide ((kk : Int) < (xi.length : Int)) = false := decide_eq_false (by omega)
                   go_wp2_with fail
                   go_roundg gk'
                   case measure => omega
                   case rel =>
                    refine ⟨i + 1, zs, by go_num, by omega, by omega, hzs, ⟨fun j x hj hx => ?_⟩, HLb, HY, HB6r, HKr⟩
                    by_cases ej : j = i
                    · subst ej
                      obtain ⟨q, hq, rfl⟩ := mem_getD _ _ hx
                      exact HZ2.out q (by omega)
                    · exact HZ.out j x (by omega) hx
              · have e1 : decide ((i : Int) < (rs.length : Int)) = false := decide_eq_false (by omega)
                have HZa := Aside0.mk (show ∀ j x, j < rs.length → x ∈ ys.getD j [] → x = ((j : Int) + 1) % 256 from fun j x hj hx => HZ.out j x (by omega) hx)
                have HN2 := Aside0.mk hys
                clear HZ hys
                go_wp2_with fail
                go_loopg [220] (rs.length + 1) (fun g v220 W => ∃ (i : Nat), v220 = .int .i64 i ∧ rs.length - i < g ∧ i ≤ rs.length ∧
                 Aside0 (Kd.S (Kd.slice 5 (Kd.int .u8)) 22 W w6.heap.size (fun k => k < w7.heap.size) (.slice As rs.length cs) ys) ∧ Aside0 (Below w6.heap.size w8 W) ∧ Aside0 (∀ k, w7.heap.size ≤ k → k < w8.heap.size → W.heap[k]? = w8.heap[k]?))
                case atStart => exact ⟨0, rfl, by omega, by omega, HY, HB6r, HKr⟩
                case round =>
                 clear HY HB6r HKr ci2
                 obtain ⟨i, rfl, hg5, hi5, HY, HB6r, HKr⟩ := hrel
                 by_cases ci3 : i < rs.length
                 · have e1 : decide ((i : Int) < (rs.length : Int)) = true := decide_eq_true (by omega)
                   obtain ⟨gk', rfl⟩ : ∃ gk', gk = gk' + 1 := ⟨gk - 1, by omega⟩
                   have HYl := HY.out
                   rw [← HN2.out] at HYl
                   obtain ⟨gs, cap, eg, -, -, -⟩ := Kd.S_form HYl (by have := HN2.out; omega)
                   clear HYl
                   injection eg with e1' e2' e3'
                   subst e1' e3'
                   clear e2'
                   obtain ⟨xi, hxi⟩ : ∃ xi, xi = ys.getD i [] := ⟨_, rfl⟩
                   obtain ⟨oki, c, hcl, ⟨v, hv, hR⟩, hcc, hoki, hback⟩ := Kd.S_borrow HY.out [] (i : Int) (by omega) (by omega)
                   subst hv
                   rw [show (i : Int).toNat = i from rfl] at hR hcc hback
                   rw [← hxi] at hR
                   obtain ⟨A, c, rfl⟩ := Kd.R_slice hR
                   have hcell := hcc 0 _ rfl
                   rw [show (Kd.slice 5 (Kd.int .u8)).sz = 1 from rfl, Nat.mul_one, Nat.add_zero, add_plain] at hcell
                   have Hxi := Aside0.mk hxi
                   have HR := Aside0.mk hR
                   have hxb : xi.length ≤ 1048576 := by
                    rw [Hxi.out]
                    by_cases h : i < ys.length
                    · exact HLb.out _ (by rw [List.getD_eq_getElem?_getD, List.getElem?_eq_getElem h]; exact List.getElem_mem h)
                    · have := HN2.out; omega
                   have Hoki := Aside0.mk hoki
                   have Hback := Aside0.mk (show ∀ (W : World), wr.grownBy W (Value.slice A xi.length c).ownBlock → Kd.R (Kd.int .u8) 5 W w6.heap.size oki (.slice A xi.length c) xi → Kd.S (Kd.slice 5 (Kd.int .u8)) 22 W w6.heap.size (fun k => k < w7.heap.size) (.slice (some ⟨gs, 0, none⟩) rs.length cs) ys from fun W hg hRW => by
                    have := hback hg (fun k e => hR.1 k e) (x' := xi) ⟨_, rfl, hRW⟩
                    rwa [hxi, setD_same _ _ _ (by have := HN2.out; omega)] at this)
                   clear hxi hR hoki hback hcc hcl
                   go_wp2_with fail
                   clear hcell
                   obtain ⟨N0, hN0⟩ : ∃ N0, N0 = wr.heap.size := ⟨_, rfl⟩
                   have HRlt := Aside0.mk (show ∀ k, (Value.slice A xi.length c).ownBlock = some k → k < N0 from fun k hk => by rw [hN0]; exact Kd.R_lt HR.out k hk)
                   have HRhi := Aside0.mk (show ∀ k, (Value.slice A xi.length c).ownBlock = some k → k < w7.heap.size from fun k hk => (Hoki.out k (HR.out.1 k hk)).1)
                   have HN0 := Aside0.mk hN0
                   clear hN0
                   go_loopg [24, 25] 21 (fun g v24 v25 W => ∃ (q : Nat) (ms : List Int), v25 = .int .i64 q ∧ 20 - q < g ∧ q ≤ 20 ∧ ms.length = q ∧
                    Aside0 (Kd.R (Kd.int .u8) 5 W w6.heap.size (fun _ => True) v24 (xi ++ ms)) ∧ Aside0 (W.ownsRow w6.heap.size 5 1 (.slice A xi.length c) xi.length (encs (Value.int .u8) xi)) ∧
                    Aside0 (v24 = .slice A (xi.length + q) c ∨ ∃ b, v24.ownBlock = some b ∧ N0 ≤ b) ∧ Aside0 (wr.grownBy W (Value.slice A xi.length c).ownBlock) ∧ Aside0 (Below w6.heap.size w8 W))
                   case atStart => exact ⟨0, [], rfl, by omega, by omega, rfl, ⟨by rw [List.append_nil]; exact Kd.R_mono HR.out (fun _ _ => trivial)⟩, ⟨Kd.own_of_R HR.out⟩, ⟨.inl rfl⟩, ⟨⟨rfl, rfl, rfl, Nat.le_refl _, fun _ _ _ => rfl⟩⟩, HB6r⟩
                   case round =>
                    have HB6w := HB6r
                    clear HB6r
                    obtain ⟨q, ms, rfl, hg6, hq6, hms, HM, HV, HAt, HG, HB6r⟩ := hrel
                    by_cases cq : q < 20
                    · obtain ⟨gk'', rfl⟩ : ∃ gk'', gk = gk'' + 1 := ⟨gk - 1, by omega⟩
                      have e2 : decide ((q : Int) < 20) = true := decide_eq_true (by omega)
                      have Hms := Aside0.mk hms
                      go_wp2_with ((with_reducible refine gate_builtin (b := .append) (xs := #[.tmp 231, .tmp 232]) rfl ?_); at_builtin; refine append_keep (w0 := w8) w6.heap.size rfl (.tmp 231) (.tmp 232) 22 5 (.int .u8 0) 1 rfl Tryd.underlying22 info5 rfl (by decide) u24 (xi ++ ms).length (encs (Value.int .u8) (xi ++ ms)) [.int .u8 254] 1 rfl (by simp [Value.oneCell']) rfl rfl (Kd.own_of_R HM.out) HB6r.out (Nat.le_trans (below_then Hb7.out Hb7.out.size Hb8.out).size HB6r.out.size) (by have := Hms.out; simp; omega) ?_
                                   intro v24 w15 ho hold hb1 hg1 hat1
                                   have hlen : (xi ++ (ms ++ [254])).length = (xi ++ ms).length + 1 := by simp; omega
                                   have henc : encs (Value.int .u8) (xi ++ (ms ++ [254])) = encs (Value.int .u8) (xi ++ ms) ++ [.int .u8 254] := by simp [encs]
                                   have HMn := Aside0.mk (Kd.R_of_own (enc := Value.int .u8) (h1 := fun _ => rfl) (xs := xi ++ (ms ++ [254])) (ok := fun _ => True) (by rw [hlen, henc]; exact ho) (fun k hk => trivial))
                                   have hlq : (xi ++ ms).length = xi.length + q := by have := Hms.out; simp; omega
                                   rw [hlq] at ho hold
                                   have hsz : wr.heap.size ≤ wr.heap.size := Nat.le_refl _
                                   have HGn := Aside0.mk (grown_join HG.out hg1 (by
                                    rcases HAt.out with e | e
                                    · rw [e]; exact .inl (by cases A <;> rfl)
                                    · obtain ⟨b, hb, hle⟩ := e; exact .inr ⟨b, hb, by rw [← HN0.out]; exact hle⟩))
                                   have HVn : w15.ownsRow w6.heap.size 5 1 (.slice A xi.length c) xi.length (encs (Value.int .u8) xi) ∧ (v24 = .slice A (xi.length + (q + 1)) c ∨ ∃ b, v24.ownBlock = some b ∧ N0 ≤ b) := by
                                    rcases HAt.out with e | ⟨b, hb, hle⟩
                                    · rw [e] at hold hg1 hat1
                                      refine ⟨?_, ?_⟩
                                      · have := own_take hold (m := xi.length) (by omega)
                                        rw [show encs (Value.int .u8) (xi ++ ms) = encs (Value.int .u8) xi ++ encs (Value.int .u8) ms by simp [encs], List.take_left' (by simp [encs])] at this
                                        exact this
                                      · rcases hat1 with h | ⟨b, hb, hle⟩
                                        · exact .inl (same_head hold ho (by omega) h)
                                        · exact .inr ⟨b, hb, by rw [HN0.out]; exact Nat.le_trans HG.out.size hle⟩
                                    · refine ⟨own_step HV.out hg1 (fun k hk e => ?_), ?_⟩
                                      · have := HRlt.out k hk
                                        rw [hb] at e; injection e with e; omega
                                      · rcases hat1 with h | ⟨b', hb', hle'⟩
                                        · exact .inr ⟨b, h.trans hb, hle⟩
                                        · exact .inr ⟨b', hb', by rw [HN0.out]; exact Nat.le_trans HG.out.size hle'⟩
                                   have HVn := Aside0.mk HVn
                                   have HBn := Aside0.mk hb1
                                   clear ho hold hb1 hg1 hat1 HM HV HAt HG HB6r hlen henc hlq hsz)
                      go_roundg gk''
                      case measure => omega
                      case rel => exact ⟨q + 1, ms ++ [254], by go_num, by omega, by omega, by simp; omega, HMn, ⟨HVn.out.1⟩, ⟨HVn.out.2⟩, HGn, HBn⟩
                    · have e2 : decide ((q : Int) < 20) = false := decide_eq_false (by omega)
                      go_wp2_with fail
                      go_roundg gk'
                      case measure => omega
                      case rel =>
                       refine ⟨i + 1, by go_num, by omega, by omega, ⟨Hback.out wr HG.out (Kd.R_of_own HV.out HR.out.1)⟩, HB6r, ⟨fun k hk1 hk2 => ?_⟩⟩
                       refine (HG.out.block k (Nat.lt_of_lt_of_le hk2 HB6w.out.size) (fun e => ?_)).trans (HKr.out k hk1 hk2)
                       have := HRhi.out k e.symm
                       omega
                 · have e1 : decide ((i : Int) < (rs.length : Int)) = false := decide_eq_false (by omega)
                   clear hg5 hi5
                   go_wp2_with fail
                   go_loopg [237] (rs.length + 1) (fun g v237 W => ∃ (i : Nat), v237 = .int .i64 i ∧ rs.length - i < g ∧ i ≤ rs.length ∧
                    Aside0 (Kd.S (Kd.slice 5 (Kd.int .u8)) 22 W w6.heap.size (fun k => k < w7.heap.size) (.slice As rs.length cs) ys) ∧ Aside0 (Below w6.heap.size w8 W) ∧ Aside0 (∀ k, w7.heap.size ≤ k → k < w8.heap.size → W.heap[k]? = w8.heap[k]?))
                   case atStart => exact ⟨0, rfl, by omega, by omega, HY, HB6r, HKr⟩
                   case round =>
                    clear HY HB6r HKr
                    obtain ⟨i, rfl, hg7, hi7, HY, HB6r, HKr⟩ := hrel
                    by_cases ci4 : i < rs.length
                    · have e1 : decide ((i : Int) < (rs.length : Int)) = true := decide_eq_true (by omega)
                      obtain ⟨gk', rfl⟩ : ∃ gk', gk = gk' + 1 := ⟨gk - 1, by omega⟩
                      have HYl := HY.out
                      rw [← HN2.out] at HYl
                      obtain ⟨gs, cap, eg, -, -, -⟩ := Kd.S_form HYl (by have := HN2.out; omega)
                      clear HYl
                      injection eg with e1' e2' e3'
                      subst e1' e3'
                      clear e2'
                      have cell_at : ∀ W : World, Kd.S (Kd.slice 5 (Kd.int .u8)) 22 W w6.heap.size (fun k => k < w7.heap.size) (.slice (some ⟨gs, 0, none⟩) rs.length cs) ys → ∃ A c, W.cell? ⟨gs, i, none⟩ = some (.slice A (ys.getD i []).length c) ∧ ∀ kk : Nat, kk < (ys.getD i []).length → ∃ g, A = some ⟨g, 0, none⟩ ∧ W.cell? ⟨g, kk, none⟩ = some (.int .u8 (((i : Int) + 1) % 256)) := by
                       intro W hS
                       obtain ⟨oki, c, hcl, ⟨v, hv, hR⟩, hcc, -, -⟩ := Kd.S_borrow hS [] (i : Int) (by omega) (by omega)
                       subst hv
                       rw [show (i : Int).toNat = i from rfl] at hR hcc
                       obtain ⟨A, c, rfl⟩ := Kd.R_slice hR
                       have := hcc 0 _ rfl
                       rw [show (Kd.slice 5 (Kd.int .u8)).sz = 1 from rfl, Nat.mul_one, Nat.add_zero, add_plain] at this
                       refine ⟨A, c, this, fun kk hk => ?_⟩
                       obtain ⟨g, cap, eg, -, -, -⟩ := Kd.R_form hR (by omega)
                       injection eg with ea _ ec
                       subst ea ec
                       obtain ⟨hx, -⟩ := Kd.R_celln 0 hR (kk : Int) (by omega) (by omega)
                       refine ⟨g, rfl, ?_⟩
                       have e : rdOf 0 (ys.getD i []) (kk : Int) = ((i : Int) + 1) % 256 := HZa.out i _ (by omega) (by
                        have : rdOf 0 (ys.getD i []) (kk : Int) = (ys.getD i [])[kk] := rdOf_nat _ kk hk
                        rw [this]; exact List.getElem_mem hk)
                       rw [← e]; exact hx
                      have hxb : (ys.getD i []).length ≤ 1048576 := HLb.out _ (by rw [List.getD_eq_getElem?_getD, List.getElem?_eq_getElem (by have := HN2.out; omega : i < ys.length)]; exact List.getElem_mem _)
                      obtain ⟨xi, hxi⟩ : ∃ xi, xi = ys.getD i [] := ⟨_, rfl⟩
                      rw [← hxi] at cell_at hxb
                      clear hxi
                      obtain ⟨A, c, hcell, -⟩ := cell_at wr HY.out
                      have Hcell := Aside0.mk cell_at
                      clear cell_at
                      go_wp2_with fail
                      clear hcell
                      go_loopg [245] (xi.length + 1) (fun g v245 W => ∃ (kk : Nat), v245 = .int .i64 kk ∧ xi.length - kk < g ∧ kk ≤ xi.length ∧
                       Aside0 (Kd.S (Kd.slice 5 (Kd.int .u8)) 22 W w6.heap.size (fun k => k < w7.heap.size) (.slice (some ⟨gs, 0, none⟩) rs.length cs) ys) ∧ Aside0 (Below w6.heap.size w8 W) ∧ Aside0 (∀ k, w7.heap.size ≤ k → k < w8.heap.size → W.heap[k]? = w8.heap[k]?))
                      case atStart => exact ⟨0, rfl, by omega, by omega, HY, HB6r, HKr⟩
                      case round =>
                       clear HY HB6r HKr
                       obtain ⟨kk, rfl, hg8, hk8, HY, HB6r, HKr⟩ := hrel
                       by_cases ck : kk < xi.length
                       · obtain ⟨gk'', rfl⟩ : ∃ gk'', gk = gk'' + 1 := ⟨gk - 1, by omega⟩
                         have e2 : decide ((kk : Int) < (xi.length : Int)) = true := decide_eq_true (by omega)
                         obtain ⟨A2, c2, hcell, hel⟩ := Hcell.out wr HY.out
                         obtain ⟨g, rfl, hx⟩ := hel kk ck
                         clear hel
                         obtain ⟨z, hz⟩ : ∃ z : Int, z = ((i : Int) + 1) % 256 := ⟨_, rfl⟩
                         have q1 : IntKind.i64.wrap ((i : Int) + 1) = (i : Int) + 1 := by rw [IntKind.wrap_i64]; omega
                         have q2 : IntKind.u8.wrap ((i : Int) + 1) = z := by rw [hz]; simp [IntKind.wrap, IntKind.bits, IntKind.signed]
                         rw [← hz] at hx
                         clear hz
                         go_wp2_with fail
                         go_roundg gk''
                         case measure => omega
                         case rel => exact ⟨kk + 1, by go_num, by omega, by omega, HY, HB6r, HKr⟩
                       · have e2 : decide ((kk : Int) < (xi.length : Int)) = false := decide_eq_false (by omega)
                         go_wp2_with fail
                         go_roundg gk'
                         case measure => omega
                         case rel => exact ⟨i + 1, by go_num, by omega, by omega, HY, HB6r, HKr⟩
                    · have e1 : decide ((i : Int) < (rs.length : Int)) = false := decide_eq_false (by omega)
                      clear HZa HLb hg7 hi7
                      have HB6w := Aside0.mk (show Below w.heap.size w wr from HB8.out.trans ⟨HB6r.out.os, HB6r.out.tape, HB6r.out.output, HB6r.out.size, fun k hk => HB6r.out.block k (Nat.lt_of_lt_of_le hk HB6.out.size)⟩)
                      have v1 : (convert 22 9 (.slice A1 xs.length c1)).run Tryd.prog wr = .ok (.string (strOfNums l1)) wr := by
                       have := Kd.C_string (P := Tryd.prog) (c := c1) Tryd.underlying22 Tryd.underlying5 Tryd.underlying9 (Kd.C_below H1.out HB6w.out)
                       rwa [← HXL.out] at this
                      have v2 : (convert 22 9 (.slice (some ⟨gF, 0, none⟩) (xs.length + 2) cF)).run Tryd.prog wr = .ok (.string (strOfNums (l1 ++ [65, 66]))) wr := by
                       have := own_string (P := Tryd.prog) Tryd.underlying22 Tryd.underlying5 Tryd.underlying9 (own_move (Kd.own_of_R HFull8.out) (w1 := wr) (fun k hk => HB6r.out.block k (by
                        have e : gF = k := by simpa [Value.ownBlock] using hk
                        rw [← e]; exact HFlt.out)))
                       rwa [← HXL.out] at this
                      have hs := Hst.out l1
                      have hadd : ∀ W : World, (Op.stringOp .add (strOfNums l1) (⟨#[65, 66]⟩ : ByteArray)).run Tryd.prog W = .ok (.string (strOfNums l1 ++ (⟨#[65, 66]⟩ : ByteArray))) W := fun W => run_string_add_sum W _ _ (by rw [strOfNums_size]; have : (⟨#[65, 66]⟩ : ByteArray).size = 2 := rfl; omega)
                      generalize strOfNums (l1 ++ [65, 66]) = u2 at v2 hs
                      generalize strOfNums l1 = u1 at v1 hs hadd
                      generalize u1 ++ (⟨#[65, 66]⟩ : ByteArray) = u3 at hs hadd
                      go_wp2_with fail
                      clear v1 v2 hs hadd
                      have HFw := Aside0.mk (Fam_move HF8.out (W1 := wr) (fun x hx => HB6r.out.block _ (HHlt.out x hx)))
                      have HWw := Aside0.mk (Kd.R_reok (ok := fun _ => True) rfl (Kd.R_of_own (enc := encW) (h1 := fun _ => rfl) (ok := fun _ => True) (own_move (Kd.own_of_R HW8.out) (w1 := wr) (fun k hk => HB6r.out.block k (H7lt.out k hk))) (fun _ _ => trivial)) (fun _ _ => trivial))
                      clear HB6r HY
                      go_loopg [28] (l0.length + 1) (fun g v28 W => ∃ (i : Nat), v28 = .int .i64 i ∧ l0.length - i < g ∧ i ≤ l0.length ∧
                       Aside0 (∀ j x l, i ≤ j → hs[j]? = some x → l0[j]? = some l → x.2.1 = l.length ∧ Kd.R (Kd.int .u8) 5 W w.heap.size (fun k => k = x.1) (.slice (some ⟨x.1, 0, none⟩) (l.length + 2) x.2.2) (l ++ [65, 66])) ∧
                       Aside0 (Kd.R KW 22 W w.heap.size (fun _ => True) (.slice A7 l0.length c7) hs) ∧ Aside0 (Below w.heap.size w W) ∧ Aside0 (∀ k, w7.heap.size ≤ k → k < w8.heap.size → W.heap[k]? = w8.heap[k]?))
                      case atStart => exact ⟨0, rfl, by omega, by omega, ⟨fun j x l _ => HFw.out.2 j x l⟩, HWw, HB6w, HKr⟩
                      case round =>
                       clear HFw HWw HB6w HKr
                       obtain ⟨i, rfl, hg9, hi9, HF, HW, HBw, HKr⟩ := hrel
                       by_cases ci5 : i < l0.length
                       · have e1 : decide ((i : Int) < (l0.length : Int)) = true := decide_eq_true (by omega)
                         obtain ⟨gk', rfl⟩ : ∃ gk', gk = gk' + 1 := ⟨gk - 1, by omega⟩
                         have hih : i < hs.length := by have := HN.out; omega
                         obtain ⟨xl, hR⟩ := HF.out i hs[i] l0[i] (Nat.le_refl _) (List.getElem?_eq_getElem hih) (List.getElem?_eq_getElem ci5)
                         obtain ⟨g7, cap7, eg, -, -, -⟩ := Kd.R_form HW.out (by omega)
                         injection eg with ea en ec
                         subst ea ec
                         clear en
                         have hcW : wr.cell? ⟨g7, i, none⟩ = some (encW hs[i]) := by
                          have := (Kd.R_celln (0, 0, 0) HW.out (i : Int) (by omega) (by omega)).1
                          have e : rdOf (0, 0, 0) hs (i : Int) = hs[i] := by simp [rdOf, List.getD_eq_getElem?_getD, hih]
                          rw [e] at this; exact this
                         obtain ⟨ad, A, c, eA, hx, hlc, hiC⟩ := at_L4 H0.out (i : Int) (by omega) (by omega)
                         subst eA
                         have hle : rd_L4 l0 (i : Int) = l0[i] := by simp [rd_L4, List.getD_eq_getElem?_getD, ci5]
                         rw [hle] at hx hlc hiC
                         have hsm := hml l0[i] (List.getElem_mem ci5)
                         have hdis : ∀ j x, i < j → hs[j]? = some x → x.1 ≠ hs[i].1 := fun j x hj hx e => by
                          obtain ⟨h1, h2⟩ := List.getElem?_eq_some_iff.1 hx
                          have := List.pairwise_iff_getElem.1 HP.out i j hih h1 hj
                          rw [h2] at this; exact this e.symm
                         have hmem : hs[i].1 < w6.heap.size := HHlt.out _ (List.getElem_mem hih)
                         have hgl : l0[i]? = some l0[i] := List.getElem?_eq_getElem ci5
                         have HNx := Aside0.mk (show ∀ j x l, i + 1 ≤ j → hs[j]? = some x → l0[j]? = some l → x.2.1 = l.length ∧ Kd.R (Kd.int .u8) 5 wr w.heap.size (fun k => k = x.1) (.slice (some ⟨x.1, 0, none⟩) (l.length + 2) x.2.2) (l ++ [65, 66]) from fun j x l hj => HF.out j x l (by omega))
                         generalize l0[i] = l at hx hlc hiC hR hsm xl
                         obtain ⟨⟨g, nn, cg⟩, hxe⟩ : ∃ y, y = hs[i] := ⟨_, rfl⟩
                         rw [← hxe] at hR hcW hdis hmem xl
                         replace xl : nn = l.length := xl
                         subst xl
                         replace hR : Kd.R (Kd.int .u8) 5 wr w.heap.size (fun k => k = g) (.slice (some ⟨g, 0, none⟩) (l.length + 2) cg) (l ++ [65, 66]) := hR
                         replace hcW : wr.cell? ⟨g7, i, none⟩ = some (.slice (some ⟨g, 0, none⟩) (l.length + 2) cg) := hcW
                         replace hx : wr.cell? (ad.add i) = some (.slice A l.length c) := (HBw.out.cell (World.block_lt_of_cell? w _ hx)).trans hx
                         have v0 : ∀ n, (convert 22 9 (.slice A l.length c)).run Tryd.prog (wr.drewN n) = .ok (.string (strOfNums l)) (wr.drewN n) := fun n => Kd.C_string (c := c) Tryd.underlying22 Tryd.underlying5 Tryd.underlying9 (Kd.C_drewN (Kd.C_below hiC HBw.out) n)
                         have v2 : ∀ n, (convert 22 9 (.slice (some ⟨g, 0, none⟩) (l.length + 2) cg)).run Tryd.prog (wr.drewN n) = .ok (.string (strOfNums (l ++ [65, 66]))) (wr.drewN n) := fun n =>
                          own_string (P := Tryd.prog) Tryd.underlying22 Tryd.underlying5 Tryd.underlying9 (Kd.own_of_R (Kd.R_drewN hR n))
                         have hss := Hst.out l
                         have hadd : ∀ W : World, (Op.stringOp .add (strOfNums l) (⟨#[65, 66]⟩ : ByteArray)).run Tryd.prog W = .ok (.string (strOfNums l ++ (⟨#[65, 66]⟩ : ByteArray))) W := fun W => run_string_add_sum W _ _ (by rw [strOfNums_size]; have : (⟨#[65, 66]⟩ : ByteArray).size = 2 := rfl; omega)
                         generalize strOfNums (l ++ [65, 66]) = u2 at v2 hss
                         generalize strOfNums l = u1 at v0 hss hadd
                         generalize u1 ++ (⟨#[65, 66]⟩ : ByteArray) = u3 at hss hadd
                         have HR := Aside0.mk hR
                         have Hdis := Aside0.mk hdis
                         have Hmem := Aside0.mk hmem
                         have HcW := Aside0.mk hcW
                         have Hxe := Aside0.mk hxe
                         clear hR hdis hmem hxe hgl hle hlc hiC HF
                         go_wp2_with fail
                         go_quiet (fail)
                         have HR := Aside0.mk (Kd.R_drewN HR.out nq)
                         have HNx := Aside0.mk (show ∀ j x l, i + 1 ≤ j → hs[j]? = some x → l0[j]? = some l → x.2.1 = l.length ∧ Kd.R (Kd.int .u8) 5 (wr.drewN nq) w.heap.size (fun k => k = x.1) (.slice (some ⟨x.1, 0, none⟩) (l.length + 2) x.2.2) (l ++ [65, 66]) from fun j x l hj h1 h2 => ⟨(HNx.out j x l hj h1 h2).1, Kd.R_drewN (HNx.out j x l hj h1 h2).2 nq⟩)
                         have HW := Aside0.mk (Kd.R_drewN HW.out nq)
                         have HBw := Aside0.mk (pw_below_drewN HBw.out nq)
                         have HKr := Aside0.mk (show ∀ k, w7.heap.size ≤ k → k < w8.heap.size → (wr.drewN nq).heap[k]? = w8.heap[k]? from fun k h1 h2 => (show (wr.drewN nq).heap[k]? = wr.heap[k]? from rfl).trans (HKr.out k h1 h2))
                         have hcW2 : (wr.drewN nq).cell? ⟨g7, i, none⟩ = some (.slice (some ⟨g, 0, none⟩) (l.length + 2) cg) := HcW.out
                         clear hx v0 v2 hss hadd HcW
                         generalize wr.drewN nq = wq at HR HNx HW HBw HKr hcW2 ⊢
                         go_wp2_with fail
                         clear hcW2
                         go_loopg [290] (l.length + 3) (fun g' v290 W => ∃ (kk : Nat) (zs : List Int), v290 = .int .i64 kk ∧ (l.length + 2) - kk < g' ∧ kk ≤ l.length + 2 ∧ zs.length = l.length + 2 ∧
                          Aside0 (Kd.R (Kd.int .u8) 5 W w.heap.size (fun k => k = g) (.slice (some ⟨g, 0, none⟩) (l.length + 2) cg) zs) ∧
                          Aside0 (∀ j x l, i + 1 ≤ j → hs[j]? = some x → l0[j]? = some l → x.2.1 = l.length ∧ Kd.R (Kd.int .u8) 5 W w.heap.size (fun k => k = x.1) (.slice (some ⟨x.1, 0, none⟩) (l.length + 2) x.2.2) (l ++ [65, 66])) ∧
                          Aside0 (Kd.R KW 22 W w.heap.size (fun _ => True) (.slice (some ⟨g7, 0, none⟩) l0.length c7) hs) ∧ Aside0 (Below w.heap.size w W) ∧ Aside0 (∀ k, w7.heap.size ≤ k → k < w8.heap.size → W.heap[k]? = w8.heap[k]?))
                         case atStart => exact ⟨0, l ++ [65, 66], rfl, by omega, by omega, by simp, HR, HNx, HW, HBw, HKr⟩
                         case round =>
                          clear HR HNx HW HBw HKr
                          obtain ⟨kk, zs, rfl, hg10, hk10, hzs, HR, HNx, HW, HBw, HKr⟩ := hrel
                          by_cases ck : kk < l.length + 2
                          · obtain ⟨gk'', rfl⟩ : ∃ gk'', gk = gk'' + 1 := ⟨gk - 1, by omega⟩
                            have hcW : wr.cell? ⟨g7, i, none⟩ = some (.slice (some ⟨g, 0, none⟩) (l.length + 2) cg) := by
                             have := (Kd.R_celln (0, 0, 0) HW.out (i : Int) (by omega) (by omega)).1
                             have e : rdOf (0, 0, 0) hs (i : Int) = hs[i] := by simp [rdOf, List.getD_eq_getElem?_getD, hih]
                             rw [e, ← Hxe.out] at this; exact this
                            obtain ⟨hx, hf⟩ := Kd.R_celln 0 HR.out (kk : Int) (by omega) (by omega)
                            replace hx : wr.cell? ⟨g, kk, none⟩ = some (.int .u8 (rdOf 0 zs (kk : Int))) := hx
                            replace hf : wr.frozen? ⟨g, kk, none⟩ = false := hf
                            have hR2 := HR.out
                            rw [← hzs] at hR2
                            have hput := Kd.R_put hR2 (kk : Int) 44
                            rw [hzs] at hput
                            replace hput : Kd.R (Kd.int .u8) 5 (wr.setCell ⟨g, kk, none⟩ (.int .u8 44)) w.heap.size (fun k => k = g) (.slice (some ⟨g, 0, none⟩) (l.length + 2) cg) (zs.set kk 44) ∧ wr.grownBy (wr.setCell ⟨g, kk, none⟩ (.int .u8 44)) (some g) := hput
                            have hbg := Kd.R_base HR.out g (by simp [Value.ownBlock])
                            have HP1 := Aside0.mk hput.1
                            have HN1 := Aside0.mk (show ∀ j x l, i + 1 ≤ j → hs[j]? = some x → l0[j]? = some l → x.2.1 = l.length ∧ Kd.R (Kd.int .u8) 5 (wr.setCell ⟨g, kk, none⟩ (.int .u8 44)) w.heap.size (fun k => k = x.1) (.slice (some ⟨x.1, 0, none⟩) (l.length + 2) x.2.2) (l ++ [65, 66]) from fun j x l hj h1 h2 =>
                             ⟨(HNx.out j x l hj h1 h2).1, Kd.R_grown (HNx.out j x l hj h1 h2).2 hput.2 (fun k hk e => by
                              injection e with e
                              exact Hdis.out j x (by omega) h1 (by rw [← hk, e]))⟩)
                            have HW1 := Aside0.mk (Kd.R_over' (v := .slice (some ⟨g, 0, none⟩) (l.length + 2) cg) HW.out (Kd.R_typed HR.out) (by decide) hput.2)
                            have HB1 := Aside0.mk (HBw.out.setCell (p := ⟨g, kk, none⟩) hbg (.int .u8 44))
                            have HK1 := Aside0.mk (show ∀ k, w7.heap.size ≤ k → k < w8.heap.size → (wr.setCell ⟨g, kk, none⟩ (.int .u8 44)).heap[k]? = w8.heap[k]? from fun k h1 h2 => (Below.heap_setCell wr ⟨g, kk, none⟩ _ k (by have := Hmem.out; have := Hb7.out.size; show k ≠ g; omega)).trans (HKr.out k h1 h2))
                            clear hput hR2 hbg HR HNx HW HBw HKr
                            go_wp2_with fail
                            go_roundg gk''
                            case measure => omega
                            case rel => exact ⟨kk + 1, zs.set kk 44, by go_num, by omega, by omega, by simp [hzs], HP1, HN1, HW1, HB1, HK1⟩
                          · go_wp2_with fail
                            go_roundg gk'
                            case measure => omega
                            case rel => exact ⟨i + 1, by go_num, by omega, by omega, HNx, HW, HBw, HKr⟩
                       · have e1 : decide ((i : Int) < (l0.length : Int)) = false := decide_eq_false (by omega)
                         clear HF HW hg9 hi9
                         rcases Hrsv.out with ⟨hr, hrse⟩ | ⟨hr, hrse⟩
                         · obtain ⟨os, hos, hose, hosl⟩ := hwant hr
                           have f1 : decide (r < 1) = false := decide_eq_false (by omega)
                           have f2 : decide (r > 3) = false := decide_eq_false (by omega)
                           have f3 : ¬ r < 1 := by omega
                           have f4 : ¬ r > 3 := by omega
                           have Hr := Aside0.mk hr
                           have Hrse := Aside0.mk hrse
                           have Hose := Aside0.mk hose
                           have Hos := Aside0.mk hos
                           have Hosl := Aside0.mk hosl
                           clear hr hrse hose hos hosl
                           go_wp2_with fail
                           refine (galleyref31_Sort.calls k A0 c0 l0 r (os.map fun o : Nat => (o : Int)) wr (Kd.C_below H0.out HBw.out) HC0.out Hos.out).mono ?_
                           rintro e W20 ⟨v30, rfl, hR30, hb30⟩
                           have hT := Kd.S_below (Kd.S_move HT8.out (w1 := wr) (fun k hk => HKr.out k hk.1 hk.2)) hb30
                           have HTC := Aside0.mk (Kd.S_reads' hT).2.2
                           obtain ⟨Aw, cw, rfl⟩ := Kd.R_slice hR30
                           have HWC := Aside0.mk (Kd.R_reads' hR30).2.2
                           have HB20 := Aside0.mk (below_then HBw.out HBw.out.size hb30)
                           have hol : os.length = rs.length := by rw [Hrse.out, ← Hose.out, List.length_map]
                           have hrl : rs.length = l0.length := by rw [Hrse.out]; unfold sortV; exact (List.mergeSort_perm _ _).length_eq
                           have Hol := Aside0.mk hol
                           have Hrl := Aside0.mk hrl
                           clear hT hR30 hb30 hol hrl HBw HKr
                           go_wp2_with fail
                           go_loopg [31] (rs.length + 1) (fun g v31 W => ∃ (i : Nat), v31 = .int .i64 i ∧ rs.length - i < g ∧ i ≤ rs.length ∧ Aside0 (Below W20.heap.size W20 W))
                           case atStart => exact ⟨0, rfl, by omega, by omega, ⟨Below.refl _ _⟩⟩
                           case round =>
                            obtain ⟨i, rfl, hg12, hi12, HBz⟩ := hrel
                            have HBa := Aside0.mk (below_then HB20.out HB20.out.size HBz.out)
                            by_cases ci6 : i < rs.length
                            · have e1 : decide ((i : Int) < (rs.length : Int)) = true := decide_eq_true (by omega)
                              obtain ⟨gk', rfl⟩ : ∃ gk', gk = gk' + 1 := ⟨gk - 1, by omega⟩
                              have hio : i < os.length := by have := Hol.out; omega
                              have hoi := Hosl.out os[i] (List.getElem_mem hio)
                              obtain ⟨adT, AT, cT, eT, hxT, hlT, hiT⟩ := at_L4 HTC.out (i : Int) (by omega) (by omega)
                              obtain ⟨adw, ew, hxw⟩ := Kd.at_int HWC.out (i : Int) (by omega) (by simp; omega)
                              subst eT ew
                              have hri : rd (os.map fun o : Nat => (o : Int)) (i : Int) = (os[i] : Int) := by simp [rd, List.getD_eq_getElem?_getD, hio]
                              rw [hri] at hxw
                              obtain ⟨ad, A, c, eA, hx, hlc, hiC⟩ := at_L4 H0.out (os[i] : Int) (by omega) (by omega)
                              subst eA
                              have hsame : rd_L4 rs (i : Int) = rd_L4 l0 (os[i] : Int) := by
                               rw [Hrse.out, ← Hose.out]
                               simp [rd_L4, List.getD_eq_getElem?_getD, hio]
                              rw [hsame] at hxT hlT hiT
                              clear hsame hri
                              generalize rd_L4 l0 (os[i] : Int) = x at hxT hlT hiT hx hlc hiC
                              generalize os[i] = o at hxw hoi hx
                              replace hxT : wr.cell? (adT.add i) = some (.slice AT x.length cT) := (HBz.out.cell (World.block_lt_of_cell? W20 _ hxT)).trans hxT
                              replace hxw : wr.cell? (adw.add i) = some (.int .i64 (o : Int)) := (HBz.out.cell (World.block_lt_of_cell? W20 _ hxw)).trans hxw
                              replace hx : wr.cell? (ad.add o) = some (.slice A x.length c) := (HBa.out.cell (World.block_lt_of_cell? w _ hx)).trans hx
                              have v0 : ∀ n, (convert 22 9 (.slice AT x.length cT)).run Tryd.prog (wr.drewN n) = .ok (.string (strOfNums x)) (wr.drewN n) := fun n => Kd.C_string (c := cT) Tryd.underlying22 Tryd.underlying5 Tryd.underlying9 (Kd.C_drewN (Kd.C_below hiT HBz.out) n)
                              have v1 : ∀ n, (convert 22 9 (.slice A x.length c)).run Tryd.prog (wr.drewN n) = .ok (.string (strOfNums x)) (wr.drewN n) := fun n => Kd.C_string (c := c) Tryd.underlying22 Tryd.underlying5 Tryd.underlying9 (Kd.C_drewN (Kd.C_below hiC HBa.out) n)
                              generalize strOfNums x = u1 at v0 v1
                              have hs1 : (u1.toList == u1.toList) = true := by simp
                              have b1 : (i : Int) < ((os.map fun o : Nat => (o : Int)).length : Int) := by simp; omega
                              have b2 : i < os.length := hio
                              have b3 : (o : Int) < (l0.length : Int) := by omega
                              clear hlT hiT hlc hiC hio
                              go_wp2_with fail
                              go_quiet (fail)
                              go_wp2_with fail
                              go_roundg gk'
                              case measure => omega
                              case rel => exact ⟨i + 1, by go_num, by omega, by omega, ⟨pw_below_drewN HBz.out _⟩⟩
                            · have e1 : decide ((i : Int) < (rs.length : Int)) = false := decide_eq_false (by omega)
                              have hrl := Hrl.out
                              go_wp2_with fail
                              go_ret
                              exact ⟨by first | rfl | simp [hrl], HBa.out⟩
                         · have f3 : r < 1 ∨ 3 < r := by omega
                           have hrl : rs.length = 0 := by rw [hrse]; rfl
                           clear hrse
                           by_cases f4 : r < 1
                           · have f5 : decide (r < 1) = true := decide_eq_true f4
                             go_wp2_with fail
                             go_ret
                             exact ⟨by first | rfl | simp [hrl], HBw.out⟩
                           · have f5 : decide (r < 1) = false := decide_eq_false f4
                             have f6 : r > 3 := by omega
                             have f7 : decide (r > 3) = true := decide_eq_true f6
                             go_wp2_with fail
                             go_ret
                             exact ⟨by first | rfl | simp [hrl], HBw.out⟩

/-- where it is shown to answer true -/
def ownOk (k : Nat) (l0 : List (List Int)) (l1 : List Int) (r : Int) : Prop :=
 l0.length ≤ 1048576 ∧ (∀ x ∈ l0, x.length ≤ 1048576) ∧ l1.length ≤ 1048576 ∧ (∀ l ∈ l0, ∀ x ∈ l, 0 ≤ x ∧ x ≤ 255) ∧ (∀ x ∈ l1, 0 ≤ x ∧ x ≤ 255) ∧
 ((r = 1 ∨ r = 2 ∨ r = 3) → ∃ os : List Nat, galleyref31_Sort.f k l0 r = some (os.map fun o : Nat => (o : Int)) ∧ os.map (fun o => l0.getD o []) = sortV l0 r ∧ ∀ o ∈ os, o < l0.length)
open Classical in
noncomputable def galleylaw31_OrderOwn.f (k : Nat) (l0 : List (List Int)) (l1 : List Int) (r : Int) : Option Bool := if ownOk k l0 l1 r then some true else none
theorem galleylaw31_OrderOwn.calls (k : Nat) (A0 : Option Addr) (c0 : Nat) (l0 : List (List Int)) (A1 : Option Addr) (c1 : Nat) (l1 : List Int) (a2 : Int) (b : Bool) (w : World)
    (hr0 : Kd.C (Kd.slice 5 (Kd.int .u8)) w A0 l0.length l0) (hc0 : l0.length ≤ c0) (hr1 : Kd.C (Kd.int .u8) w A1 l1.length l1) (hc1 : l1.length ≤ c1)
    (h : galleylaw31_OrderOwn.f k l0 l1 a2 = some b) (hLaid : Laid w) :
    Calls Tryd.prog 10 #[.slice A0 l0.length c0, .slice A1 l1.length c1, .int .i64 a2] w fun e w' => e = .returned (.bool b) ∧ Below w.heap.size w w' := by
 unfold galleylaw31_OrderOwn.f at h
 by_cases c : ownOk k l0 l1 a2
 · rw [if_pos c] at h
   obtain rfl := Option.some.inj h
   obtain ⟨g1, g2, g3, g4, g5, g6⟩ := c
   exact own_walk k A0 c0 l0 A1 c1 l1 a2 w hr0 hc0 hr1 hc1 g1 g2 g3 g4 g5 g6 hLaid
 · rw [if_neg c] at h; cases h
end Go.Proofs.YtdomggegacgmnaaDoor.PA
