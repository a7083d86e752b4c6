/- List: the rows in a new row, by their ends, those alike by their names. -/
import Derived.Test.YtjladdjpnicldaaGRow
namespace Go.Proofs.Ytjladdjpnicldaa.PA
open Go.RowKit Go.Maps Go.Proofs.YtjladdjpnicldaaW.PrintWords Go.Proofs.YtjladdjpnicldaaW.PrintLast Go.Proofs.YtjladdjpnicldaaW.PrintMore

theorem infoR24 : (Try.prog.info? 24).map (fun i => (i.zero, i.size, i.bytes)) = some (some (.agg #[(.string ⟨#[]⟩), (.int .i64 0), (.int .i64 0), (.int .i64 0), (.int .i64 0)]), 5, 48) := by kernel_rfl
theorem make24 (m : Nat) (hm : m ≤ 1099511627776) (W : World) : ∃ cs : Array Value, cs.size = m * 5 ∧ (Instr.makeSlice 40 (.int .i64 0) (.int .i64 (m : Int))).run Try.prog W = .ok (.slice (some ⟨W.heap.size, 0, none⟩) 0 m) (W.alloc (.cells cs 24)) := by
  have h := infoR24
  cases hi : Try.prog.info? 24 with
  | none => rw [hi] at h; cases h
  | some i =>
    rw [hi] at h
    simp only [Option.map_some, Option.some.injEq, Prod.mk.injEq] at h
    have hr := run_make (P := Try.prog) W 40 24 i _ Try.underlying40 hi h.1 .i64 .i64 0 (m : Int) (by omega) (by omega) (by rw [h.2.2]; omega) (by omega)
    rw [Int.toNat_natCast, h.2.1] at hr
    exact ⟨_, by rw [size_madeCells], hr⟩
theorem R_made {W : World} {cs : Array Value} {m : Nat} (hcs : cs.size = m * 5) (hm : m ≤ 1099511627776) : Kd.R k24 24 (W.alloc (.cells cs 24)) W.heap.size (fun k => k = W.heap.size) (.slice (some ⟨W.heap.size, 0, none⟩) 0 m) [] :=
  ⟨fun k hk => (Option.some.inj hk).symm, [], ⟨rfl, .inr ⟨W.heap.size, m, cs, rfl, Nat.le_refl _, (MapKept.heap_alloc W _).1, Nat.zero_le _, by unfold maxLen; omega, hcs, by simp⟩⟩, Reps.none _ _⟩

set_option maxHeartbeats 1000000 in
set_option maxRecDepth 100000 in
theorem sort_rows (g n cap : Nat) (xs : List S24) (W : World) (base : Nat) (h : Kd.R k24 24 W base (fun _ => True) (.slice (some ⟨g, 0, none⟩) n cap) xs) (hl : xs.length ≤ 1099511627776) :
    Calls Try.prog 32 #[.slice (some ⟨g, 0, none⟩) n cap, .func (.func 33) #[] #[]] W fun e w' => e = .returned (.tuple #[]) ∧
      Kd.R k24 24 w' base (fun _ => True) (.slice (some ⟨g, 0, none⟩) n cap) (xs.mergeSort (fun x y => !ltR y x)) ∧ W.grownBy w' (some g) := by
  obtain ⟨rest, hb, hn, hnc, hcm, hr, S⟩ := open_R h
  have hts : (Go.Proofs.Ytjladdjpnicldaa.tagged xs).size = n := by rw [Go.Proofs.Ytjladdjpnicldaa.tagged_size]; exact hn.symm
  have hc := sortStable_walk (w0 := W) (g := g) (rest := rest) symL Try.sizeOf24 encT_K cfT 33 (fun args w => enters_of Try.func33 rfl rfl args w) cap n (Go.Proofs.Ytjladdjpnicldaa.tagged xs) W (fun d W' _ _ x y => closR_walk x.1 y.1 W') hts S (by omega)
  have hst : Go.Proofs.Ytjladdjpnicldaa.stable (ltOf cfT) (Go.Proofs.Ytjladdjpnicldaa.tagged xs) = Go.Proofs.Ytjladdjpnicldaa.stable (fun x y : S24 × Nat => ltR x.1 y.1) (Go.Proofs.Ytjladdjpnicldaa.tagged xs) := rfl
  have hboth := Go.Proofs.Ytjladdjpnicldaa.stable_both ltR swoR xs
  rw [hst] at hc
  generalize Go.Proofs.Ytjladdjpnicldaa.stable (fun x y : S24 × Nat => ltR x.1 y.1) (Go.Proofs.Ytjladdjpnicldaa.tagged xs) = D at hc hboth
  refine hc.mono ?_
  rintro e w' ⟨rfl, S2⟩
  have hD : D.size = n := by
    have := hboth.1.length_eq
    rw [List.length_zipIdx, Array.length_toList (xs := D)] at this
    rw [this]; exact hn.symm
  refine ⟨rfl, ?_, S2.kept⟩
  rw [← hboth.2]
  exact shut_R hb hnc hcm hD (by rw [hn]; exact hr) S2

set_option maxHeartbeats 1000000 in
set_option maxRecDepth 100000 in
theorem listR_nil (w : World) : Calls Try.prog 17 #[.pointer none] w fun e w' => e = .returned (.slice none 0 0) ∧ Below w.heap.size w w' := by
  go_enter Try.func17, Try.ntmps17
  go_wp2_with fail
  go_ret
  exact ⟨rfl, Below.refl _ _⟩

set_option maxHeartbeats 2000000 in
set_option maxRecDepth 100000 in
theorem listR_ok (w : World) (b : Nat) (n : Int) (rows : List S24) (h : RObj w b n rows) (hrows : ∀ x ∈ rows, x.f0.size ≤ 64) (hlen : rows.length ≤ 1099511627776) :
    Calls Try.prog 17 #[.pointer (some ⟨b, 0, none⟩)] w fun e w' => ∃ v, e = .returned v ∧ Kd.R k24 24 w' w.heap.size (fun _ => True) v (listV rows) ∧ Below w.heap.size w w' := by
  obtain ⟨m, D, hb, ho, ha⟩ := h
  have hkk := (ha.keys Try.underlying9 ho).1
  have hSz := (ha.keys Try.underlying9 ho).2
  obtain ⟨cs, hcs, hmk⟩ := make24 rows.length hlen w
  have c1 : w.cell? ⟨b, 1, none⟩ = some (.map (some m)) := (blk_cell hb 1).trans rfl
  have c1' : (w.alloc (.cells cs 24)).cell? ⟨b, 1, none⟩ = some (.map (some m)) := cell_later c1 _
  have hln := ho.len Try.underlying73 3
  rw [hSz] at hln
  have HRA := Aside0.mk ha
  have HRO := Aside0.mk ho
  have C1 := Aside0.mk c1
  have HRW := Aside0.mk hrows
  have HLN := Aside0.mk hlen
  have HCS := Aside0.mk hcs
  have HKK := Aside0.mk hkk
  have HSZ := Aside0.mk hSz
  clear hrows hcs hkk hSz hb ha ho
  go_enter Try.func17, Try.ntmps17
  go_wp2_with (go_at_call 31; refine (keysK _ _).mono ?_; rintro e w' ⟨rfl, rfl⟩)
  have hS := sortedK m rows.length D readR (w.alloc (.cells cs 24)) (HRO.out.alloc _) (by rw [HSZ.out]; unfold maxLen; have := HLN.out; omega) (by rw [HSZ.out]; have := HLN.out; omega)
  simp only [World.size_alloc] at hS
  refine hS.mono ?_
  rintro e W3 ⟨vN, ss, rfl, hp, hrow, -, hB3⟩
  have hnm : (ss.mergeSort (fun x y => decide (x ≤ y))).map Go.Proofs.encStr = encs Value.string ((sortN rows).map (fun x => x.f0)) := by
    have := Go.mergeSort_of_perm (hp.trans HKK.out.symm)
    rw [show (fun x y : List UInt8 => decide (x ≤ y)) = Go.leB from rfl, this]
    have := names_sorted rows
    rw [show (fun x y : List UInt8 => decide (x ≤ y)) = Go.leB from rfl] at this
    rw [this]
    simp [encs, List.map_map]
  have hsl : ss.length = ((sortN rows).map (fun x => x.f0)).length := by
    rw [List.length_map, (sortN_perm rows).length_eq, (hp.trans HKK.out.symm).length_eq]
    unfold namesOf
    rw [List.length_map]
  rw [hnm, hsl] at hrow
  obtain ⟨rs, hrs⟩ : ∃ rs, rs = sortN rows := ⟨_, rfl⟩
  rw [← hrs] at hrow
  have HRS := Aside0.mk hrs
  have HN : Aside0 (Kd.R Kd.string 9 W3 (w.heap.size + 2) (fun k => w.heap.size + 2 ≤ k ∧ k < W3.heap.size) vN (rs.map (fun x => x.f0))) := ⟨Kd.R_of_own hrow (fun k hk => ⟨own_base hrow k hk, own_lt hrow k hk⟩)⟩
  have hB3' : Below ((w.alloc (.cells cs 24)).alloc (.cells #[.map (some m)] 73)).heap.size ((w.alloc (.cells cs 24)).alloc (.cells #[.map (some m)] 73)) W3 := by
    simp only [World.size_alloc]; exact hB3
  have HOUT : Aside0 (Kd.R k24 24 W3 w.heap.size (fun k => k = w.heap.size ∨ W3.heap.size ≤ k) (.slice (some ⟨w.heap.size, 0, none⟩) 0 rows.length) (rs.take 0)) := ⟨by
    have h0 := Kd.R_below (R_made (W := w) HCS.out HLN.out) (below_alloc (Below.refl _ _) (.cells #[.map (some m)] 73))
    exact Kd.R_mono (Kd.R_below h0 hB3') (fun k hk => .inl hk)⟩
  have HBW : Aside0 (Below w.heap.size w W3) := ⟨below_then (below_alloc (below_alloc (Below.refl _ _) _) _) (by simp; omega) hB3'⟩
  have HW3 : Aside0 (w.heap.size + 2 ≤ W3.heap.size) := ⟨by have := hB3'.size; simp only [World.size_alloc] at this; omega⟩
  obtain ⟨AN, cN, rfl⟩ := Kd.R_slice HN.out
  obtain ⟨N, hN⟩ : ∃ N, N = (rs.map (fun x => x.f0)).length := ⟨_, rfl⟩
  have hNl : N = rs.length := by rw [hN, List.length_map]
  have HNL := Aside0.mk hNl
  have hNb : N ≤ 1099511627776 := by rw [hNl, hrs, (sortN_perm rows).length_eq]; exact HLN.out
  rw [← hN] at HN
  rw [← hN]
  have HNN := Aside0.mk hN
  clear hS hp hrow hnm hsl hB3 hB3' hrs hN hNl c1 c1' hmk HKK hln
  go_wp2_with fail
  go_loopg [3, 21] N (fun kq v3 v21 wr => ∃ (k : Nat), v21 = .int .i64 k ∧ k ≤ N ∧ N - k ≤ kq ∧ Aside0 (Kd.R k24 24 wr w.heap.size (fun k => k = w.heap.size ∨ W3.heap.size ≤ k) v3 (rs.take k)) ∧ Aside0 (∃ q, v3.ownBlock = some q) ∧
    Aside0 (Kd.R Kd.string 9 wr (w.heap.size + 2) (fun k => w.heap.size + 2 ≤ k ∧ k < W3.heap.size) (.slice AN N cN) (rs.map (fun x => x.f0))) ∧ Aside0 (Below w.heap.size w wr) ∧ Aside0 (W3.heap.size ≤ wr.heap.size))
  case atStart => exact ⟨0, rfl, Nat.zero_le _, by omega, HOUT, ⟨_, rfl⟩, HN, HBW, ⟨Nat.le_refl _⟩⟩
  case round =>
    clear HN HOUT HBW
    obtain ⟨k, rfl, hk, hkq, HOUT, HQ, HN, HBW, HSW⟩ := hrel
    obtain ⟨Ao, co, rfl⟩ := Kd.R_slice HOUT.out
    by_cases hkn : k < N
    · have e1 : decide ((k : Int) < (N : Int)) = true := decide_eq_true (by omega)
      obtain ⟨k2, hk2_⟩ : ∃ k2, k2 = k + 1 := ⟨_, rfl⟩
      have e2 : IntKind.i64.wrap ((k : Int) + 1) = (k2 : Int) := by rw [IntKind.wrap_i64]; omega
      have e3 : (k : Int) + 1 = (k2 : Int) := by omega
      have HK2 := Aside0.mk hk2_
      clear hk2_
      have hkr : k < rs.length := by rw [← HNL.out]; exact hkn
      obtain ⟨gn, capn, hform, -⟩ := Kd.R_form HN.out (by rw [← HNN.out]; omega)
      injection hform with hA hA2 hA3
      subst hA
      clear hA2 hA3
      obtain ⟨cc, -, hM, hcell, -⟩ := Kd.R_elem HN.out ⟨#[]⟩ (k : Int) (by omega) (by omega)
      have hxk : (rs.map (fun x => x.f0)).getD ((k : Int)).toNat ⟨#[]⟩ = rs[k].f0 := by
        rw [Int.toNat_natCast, List.getD_eq_getElem?_getD, List.getElem?_map, List.getElem?_eq_getElem hkr]; rfl
      rw [hxk] at hM
      have hce : cc = [.string rs[k].f0] := hM
      subst hce
      have cn : wr.cell? ⟨gn, k, none⟩ = some (.string rs[k].f0) := by
        have := hcell 0 _ rfl
        simpa [Kd.string, Kd.scalar] using this
      have hmem : rs[k] ∈ rows := (sortN_perm rows).mem_iff.1 (by rw [← HRS.out]; exact List.getElem_mem hkr)
      have hget : getV rows rs[k].f0 = some rs[k] := getV_mem HRA.out.nodup hmem
      have htk : rs.take (k + 1) = rs.take k ++ [rs[k]] := List.take_succ_eq_append_getElem hkr
      have hsz := HRW.out _ hmem
      have htl : (rs.take k).length = k := by rw [List.length_take]; omega
      generalize rs[k] = x at cn hmem hget htk hsz
      have HTK := Aside0.mk htk
      have hRO := (HRO.out.kept (grown_of_below HBW.out none) (by simp) : wr.ownsMap Try.prog 9 readR m rows.length D)
      have hlook := look_rows1 hRO HRA.out (s := x.f0) (by unfold maxLen; omega)
      rw [hget, Option.getD_some] at hlook
      have c1 : wr.cell? ⟨b, 1, none⟩ = some (.map (some m)) := (HBW.out.cell (World.block_lt_of_cell? _ _ C1.out)).trans C1.out
      clear hM hcell hxk hmem hget htk hRO hkr hsz
      obtain ⟨x0, x1, x2, x3, x4⟩ := x
      unfold encR at hlook
      simp only at cn hlook
      generalize rs.take k = xs at HOUT HQ HTK htl
      have HTL := Aside0.mk htl
      clear htl
      go_wp2_with ((with_reducible refine gate_builtin (b := .append) (xs := #[.tmp 25, .tmp 32]) rfl ?_); at_builtin; refine Kd.R_append k24 (w0 := w) w.heap.size rfl (.tmp 25) (.tmp 32) 40 24 (.agg #[(.string ⟨#[]⟩), (.int .i64 0), (.int .i64 0), (.int .i64 0), (.int .i64 0)]) 48 rfl Try.underlying40 infoR24 rfl (by decide) (by decide) (.slice Ao xs.length co) xs ⟨x0, x1, x2, x3, x4⟩ [.string x0, .int .i64 x1, .int .i64 x2, .int .i64 x3, .int .i64 x4] (fun k => k = w.heap.size ∨ W3.heap.size ≤ k) (fun _ => False) rfl rfl (k24_mkM _ _ _ _) (fun _ h => h.elim) (fun q hq => .inr (Nat.le_trans HSW.out hq)) HOUT.out HBW.out HBW.out.size (by have := HTL.out; omega) ?_; intro v1 w1 ho1 hb1 hg1 hat1)
      rw [← HTK.out] at ho1
      have hn1 := Kd.R_grown HN.out hg1 (fun q hq e => by
        rcases HOUT.out.1 q e.symm with h | h
        · omega
        · exact absurd hq.2 (by omega))
      have hq1 : ∃ q, v1.ownBlock = some q := by
        rcases hat1 with h | ⟨q, h, -⟩
        · obtain ⟨q, hq⟩ := HQ.out
          exact ⟨q, h.trans hq⟩
        · exact ⟨_, h⟩
      go_roundg (N - (k + 1))
      case measure => omega
      case rel => exact ⟨k + 1, by rw [← HK2.out], by omega, by omega, ⟨ho1⟩, ⟨hq1⟩, ⟨hn1⟩, ⟨hb1⟩, ⟨Nat.le_trans HSW.out hg1.size⟩⟩
    · have e1 : decide ((k : Int) < (N : Int)) = false := decide_eq_false (by omega)
      obtain rfl : k = N := by omega
      have hx : rs.take k = sortN rows := by rw [HNL.out, List.take_length, HRS.out]
      have hOUT := HOUT.out
      rw [hx] at hOUT HQ ⊢
      obtain ⟨q, hq⟩ := HQ.out
      have hqb : w.heap.size ≤ q := by
        rcases HOUT.out.1 q (by rw [hx]; exact hq) with h | h
        · omega
        · have := HW3.out; omega
      have hform : Ao = some ⟨q, 0, none⟩ := by
        rcases hOUT.2.choose_spec.1.2 with ⟨e, -⟩ | ⟨g, cap, cur, ev, -⟩
        · rw [e] at hq; cases hq
        · injection ev with e1
          subst e1
          have := Option.some.inj hq
          simp only at this
          subst this
          rfl
      subst hform
      have hl : (sortN rows).length ≤ 1099511627776 := by rw [(sortN_perm rows).length_eq]; exact HLN.out
      have hc := Aside0.mk (sort_rows q (sortN rows).length co (sortN rows) wr w.heap.size (Kd.R_mono hOUT (fun _ _ => trivial)) hl)
      clear hOUT hx hl hq HQ HN HOUT
      go_wp2_with fail
      refine hc.out.mono ?_
      rintro e W5 ⟨rfl, hR5, hg5⟩
      have HR5 := Aside0.mk hR5
      have HB5 := Aside0.mk (HBW.out.grown hg5 HBW.out.size (fun k e => by cases e; omega))
      clear hR5 hg5 hc
      go_wp2_with fail
      go_ret
      exact ⟨_, rfl, HR5.out, HB5.out⟩
end Go.Proofs.Ytjladdjpnicldaa.PA
