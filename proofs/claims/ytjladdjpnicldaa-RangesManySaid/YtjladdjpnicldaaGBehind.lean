/- Behind over objects. -/
import Derived.Test.YtjladdjpnicldaaGSetOk
import Derived.Test.YtjladdjpnicldaaPlace
namespace Go.Proofs.Ytjladdjpnicldaa.PA
open Go.RowKit Go.Maps Go.Proofs.YtjladdjpnicldaaW.PrintWords Go.Proofs.YtjladdjpnicldaaW.PrintLast Go.Proofs.YtjladdjpnicldaaW.PrintMore

theorem look_rows1 {W : World} {m cnt : Nat} {D : DataW Unit} {rows : List S24} (ho : W.ownsMap Try.prog 9 readR m cnt D) (ha : Agree D rows) {s : ByteArray} (hs : s.size ≤ maxLen) :
    (Instr.lookup 73 (.map (some m)) (.string s) false).run Try.prog W = .ok (encR ((getV rows s).getD z24)) W := by
  obtain ⟨v, ps, hrun, hv⟩ := ho.lookup lawStr Try.underlying73 (zero24 _) (readR_enc z24) (Go.WideMaps.keyOf_string_mk Try.underlying9 hs)
  have e2 := ha.at_eq s
  unfold keyL at e2
  rw [e2] at hv
  obtain ⟨x, rfl, hx⟩ := readR_inv hv
  simp only [Prod.mk.injEq] at hx
  rw [datR_inj hx.1]
  exact hrun

/-- the rows by their names -/
def leN (x y : S24) : Bool := decide (x.f0.data.toList ≤ y.f0.data.toList)
def sortN (rows : List S24) : List S24 := rows.mergeSort leN
theorem sortN_perm (rows : List S24) : (sortN rows).Perm rows := List.mergeSort_perm _ _
theorem names_sorted (rows : List S24) : ((namesOf rows).mergeSort (fun x y => decide (x ≤ y))).map Go.Proofs.encStr = (sortN rows).map (fun x => Value.string x.f0) := by
  unfold namesOf sortN
  rw [← List.map_mergeSort (r := leN) (f := fun x : S24 => x.f0.data.toList) (fun a _ b _ => rfl), List.map_map]
  rfl
def movR (l : List S56) (x : S24) : S24 := ⟨x.f0, placeV l x.f1 x.f3, placeV l x.f2 x.f4, x.f3, x.f4⟩
def movedRows (l : List S56) (rs : List S24) : List S24 := (rs.map (movR l)).filter (fun x => decide (x.f1 < x.f2))
def goneNames (l : List S56) (rs : List S24) : List ByteArray := ((rs.map (movR l)).filter (fun x => !decide (x.f1 < x.f2))).map (fun x => x.f0)
theorem movedRows_snoc (l : List S56) (rs : List S24) (x : S24) : movedRows l (rs ++ [x]) = movedRows l rs ++ (if placeV l x.f1 x.f3 < placeV l x.f2 x.f4 then [movR l x] else []) := by
  unfold movedRows
  rw [List.map_append, List.filter_append]
  congr 1
  by_cases h : placeV l x.f1 x.f3 < placeV l x.f2 x.f4 <;> simp [movR, h]
theorem goneNames_snoc (l : List S56) (rs : List S24) (x : S24) : goneNames l (rs ++ [x]) = goneNames l rs ++ (if placeV l x.f1 x.f3 < placeV l x.f2 x.f4 then [] else [x.f0]) := by
  unfold goneNames
  rw [List.map_append, List.filter_append, List.map_append]
  congr 1
  by_cases h : placeV l x.f1 x.f3 < placeV l x.f2 x.f4 <;> simp [movR, h]
theorem goneNames_len (l : List S56) (rs : List S24) : (goneNames l rs).length ≤ rs.length := by
  unfold goneNames
  rw [List.length_map]
  exact Nat.le_trans (List.length_filter_le _ _) (by rw [List.length_map]; exact Nat.le_refl _)
theorem movedRows_len (l : List S56) (rs : List S24) : (movedRows l rs).length ≤ rs.length := by
  unfold movedRows
  exact Nat.le_trans (List.length_filter_le _ _) (by rw [List.length_map]; exact Nat.le_refl _)
theorem infoStr9 : (Try.prog.info? 9).map (fun i => (i.zero, i.size, i.bytes)) = some (some (.string ⟨#[]⟩), 1, 16) := by kernel_rfl
def okRow (n : Int) (x : S24) : Prop := x.f0.size ≤ 64 ∧ 0 ≤ x.f1 ∧ x.f1 ≤ n ∧ 0 ≤ x.f2 ∧ x.f2 ≤ n ∧ (x.f3 = 1 ∨ x.f3 = 2) ∧ (x.f4 = 1 ∨ x.f4 = 2)

set_option maxHeartbeats 1000000 in
set_option maxRecDepth 100000 in
theorem behind_nil (A : Option Addr) (n c : Nat) (w : World) : Calls Try.prog 13 #[.pointer none, .slice A n c] w fun e w' => e = .returned (.tuple #[.pointer none, .slice none 0 0, .int .i64 1]) ∧ Below w.heap.size w w' := by
  go_enter Try.func13, Try.ntmps13
  go_wp2_with fail
  go_ret3
  exact ⟨rfl, Below.refl _ _⟩

set_option maxHeartbeats 1000000 in
set_option maxRecDepth 100000 in
theorem behind_bad (A : Option Addr) (c : Nat) (l : List S56) (w : World) (p : Addr) (hr : Kd.C k56 w A l.length l) (hc : l.length ≤ c) (hs : Sane l) (hv : validV l = false) :
    Calls Try.prog 13 #[.pointer (some p), .slice A l.length c] w fun e w' => e = .returned (.tuple #[.pointer none, .slice none 0 0, .int .i64 130]) ∧ Below w.heap.size w w' := by
  have hL := Aside0.mk (delta_Lens.calls (6 * l.length + 2) A c l 0 0 130 w hr hc (by rw [lensF_tells l hs _ (by omega), hv]; rfl))
  clear hr hv hs
  go_enter Try.func13, Try.ntmps13
  go_wp2_with fail
  refine hL.out.mono ?_
  rintro e W1 ⟨rfl, B1⟩
  have HB1 := Aside0.mk B1
  clear B1 hL
  go_wp2_with fail
  go_ret3
  exact ⟨rfl, HB1.out⟩

set_option maxHeartbeats 1000000 in
set_option maxRecDepth 100000 in
theorem behind_fit (A : Option Addr) (c : Nat) (l : List S56) (w : World) (b : Nat) (n : Int) (rows : List S24) (h : RObj w b n rows) (hr : Kd.C k56 w A l.length l) (hc : l.length ≤ c) (hs : Sane l) (hv : validV l = true) (hf : ((sumsV 0 0 l).getD (0, 0)).1 ≠ n) :
    Calls Try.prog 13 #[.pointer (some ⟨b, 0, none⟩), .slice A l.length c] w fun e w' => e = .returned (.tuple #[.pointer none, .slice none 0 0, .int .i64 131]) ∧ Below w.heap.size w w' := by
  have hL := Aside0.mk (delta_Lens.calls (6 * l.length + 2) A c l _ _ 0 w hr hc (by rw [lensF_tells l hs _ (by omega), hv]; rfl))
  generalize ((sumsV 0 0 l).getD (0, 0)).1 = from_ at hL hf
  generalize ((sumsV 0 0 l).getD (0, 0)).2 = too at hL
  have d1 : (from_ != n) = true := bne_iff_ne.2 hf
  have HO := Aside0.mk h
  clear hr hv hs h hf
  go_enter Try.func13, Try.ntmps13
  go_wp2_with fail
  refine hL.out.mono ?_
  rintro e W1 ⟨rfl, B1⟩
  have HB1 := Aside0.mk B1
  obtain ⟨m, D, hb, -⟩ := HO.out.below B1
  have c0 : W1.cell? ⟨b, 0, none⟩ = some (.int .i64 n) := (blk_cell hb 0).trans rfl
  clear B1 hL hb
  go_wp2_with fail
  go_ret3
  exact ⟨rfl, HB1.out⟩

/-- the new object while it grows: blocks m and m + 1 -/
def OutSt (w : World) (m : Nat) (n : Int) (rows : List S24) : Prop := w.heap[m + 1]? = some (.cells #[.int .i64 n, .map (some m)] 75 (0, 0)) ∧ ∃ D, w.ownsMap Try.prog 9 readR m rows.length D ∧ Agree D rows
theorem OutSt.step {w w' : World} {m : Nat} {n : Int} {rows : List S24} (h : OutSt w m n rows) (h0 : w'.heap[m]? = w.heap[m]?) (h1 : w'.heap[m + 1]? = w.heap[m + 1]?) : OutSt w' m n rows := by
  obtain ⟨hb, D, ⟨es, clock, hm, hf⟩, ha⟩ := h
  exact ⟨h1.trans hb, D, ⟨es, clock, h0.trans hm, hf⟩, ha⟩
theorem OutSt.lt {w : World} {m : Nat} {n : Int} {rows : List S24} (h : OutSt w m n rows) : m + 1 < w.heap.size := blk_lt h.1
theorem OutSt.below {w w' : World} {m : Nat} {n : Int} {rows : List S24} (h : OutSt w m n rows) (hb : Below w.heap.size w w') : OutSt w' m n rows := h.step (hb.block _ (by have := h.lt; omega)) (hb.block _ h.lt)
theorem OutSt.grown {w w' : World} {m : Nat} {n : Int} {rows : List S24} {r : Option Nat} (h : OutSt w m n rows) (hg : w.grownBy w' r) (h0 : some m ≠ r) (h1 : some (m + 1) ≠ r) : OutSt w' m n rows := h.step (hg.block _ (by have := h.lt; omega) h0) (hg.block _ h.lt h1)
theorem outSt_new (W : World) (n : Int) : OutSt ((W.alloc (.map #[] 0)).alloc (.cells #[.int .i64 n, .map (some W.heap.size)] 75)) W.heap.size n [] := by
  have h1 := (MapKept.heap_alloc (W.alloc (.map #[] 0)) (.cells #[.int .i64 n, .map (some W.heap.size)] 75)).1
  rw [World.size_alloc] at h1
  exact ⟨h1, .map [], (World.ownsMap_made W Try.prog 9 readR).alloc _, agree_empty⟩
theorem OutSt.robj {w : World} {m : Nat} {n : Int} {rows : List S24} (h : OutSt w m n rows) : RObj w (m + 1) n rows := ⟨m, _, h.1, h.2.choose_spec.1, h.2.choose_spec.2⟩
/-- .. one row more -/
theorem OutSt.put {W3 W4 : World} {m : Nat} {n : Int} {rows : List S24} {D : DataW Unit} {x : S24} (ha : Agree D rows) (ho : W4.ownsMap Try.prog 9 readR m (rows.length + 1) (D.put (keyL x.f0) (datR x))) (hb : W3.heap[m + 1]? = some (.cells #[.int .i64 n, .map (some m)] 75 (0, 0)))
    (ho3 : W3.ownsMap Try.prog 9 readR m rows.length D) (ht : W3.mapTurned W4 m) (hnew : ∀ y ∈ rows, y.f0 ≠ x.f0) : OutSt W4 m n (rows ++ [x]) := by
  have hnd : ((rows ++ [x]).map (fun x => x.f0)).Nodup := by
    rw [List.map_append, List.nodup_append]
    refine ⟨ha.nodup, by simp, ?_⟩
    intro a h1 b h2
    obtain ⟨y, hy, rfl⟩ := List.mem_map.1 h1
    rw [List.map_singleton, List.mem_singleton] at h2
    rw [h2]
    exact hnew y hy
  have ha2 := ha.put ho3.isMap x hnd (fun y => by
    rw [List.mem_append, List.mem_singleton]
    exact ⟨fun h => h.elim (fun h => .inr ⟨h, hnew y h⟩) .inl, fun h => h.elim .inr (fun h => .inl h.1)⟩)
  have hk := (ha2.keys Try.underlying9 ho).2
  exact ⟨(ht.grown.block (m + 1) (blk_lt hb) (fun e => by have := Option.some.inj e; omega)).trans hb, _, hk ▸ tight ho, ha2⟩

set_option maxHeartbeats 4000000 in
set_option maxRecDepth 100000 in
theorem behind_ok (A : Option Addr) (c : Nat) (l : List S56) (w : World) (b : Nat) (n too : Int) (rows : List S24) (h : RObj w b n rows) (hr : Kd.C k56 w A l.length l) (hc : l.length ≤ c) (hs : Sane l) (hv : validV l = true) (hf : sumsV 0 0 l = some (n, too)) (hrows : ∀ x ∈ rows, okRow n x) (hlen : rows.length ≤ 1099511627776) :
    Calls Try.prog 13 #[.pointer (some ⟨b, 0, none⟩), .slice A l.length c] w fun e w' => ∃ b' vg, e = .returned (.tuple #[.pointer (some ⟨b', 0, none⟩), vg, .int .i64 0]) ∧ RObj w' b' too (movedRows l (sortN rows)) ∧ Kd.R Kd.string 9 w' w.heap.size (fun _ => True) vg (goneNames l (sortN rows)) ∧ Below w.heap.size w w' := by
  have hL := Aside0.mk (delta_Lens.calls (6 * l.length + 2) A c l n too 0 w hr hc (by rw [lensF_tells l hs _ (by omega), hv, hf]; rfl))
  have hmm := @run_makeMap Try.prog
  have d1 : (n != n) = false := by simp
  have HO := Aside0.mk h
  have HR := Aside0.mk hr
  have HS := Aside0.mk hs
  have HV := Aside0.mk hv
  have HF := Aside0.mk hf
  have HRW := Aside0.mk hrows
  have HLN := Aside0.mk hlen
  clear hr hv hs h hf hrows hlen
  go_enter Try.func13, Try.ntmps13
  go_wp2_with fail
  refine hL.out.mono ?_
  rintro e W1 ⟨rfl, B1⟩
  have HB1 := Aside0.mk B1
  obtain ⟨m, D, hb, ho, ha⟩ := HO.out.below B1
  have c0 : W1.cell? ⟨b, 0, none⟩ = some (.int .i64 n) := (blk_cell hb 0).trans rfl
  have HRO := Aside0.mk ho
  have HRA := Aside0.mk ha
  have C1 := Aside0.mk (show W1.cell? ⟨b, 1, none⟩ = some (.map (some m)) from (blk_cell hb 1).trans rfl)
  have c1 : ((W1.alloc (.map #[] 0)).alloc (.cells #[.int .i64 too, .map (some W1.heap.size)] 75)).cell? ⟨b, 1, none⟩ = some (.map (some m)) := cell_later (cell_later ((blk_cell hb 1).trans rfl) _) _
  clear B1 hL hb ho ha
  go_wp2_with (go_at_call 31; refine (keysK _ _).mono ?_; rintro e w' ⟨rfl, rfl⟩)
  have hkk := ((HRA.out.keys Try.underlying9 HRO.out).1)
  have hSz := (HRA.out.keys Try.underlying9 HRO.out).2
  have hS := sortedK m rows.length D readR ((W1.alloc (.map #[] 0)).alloc (.cells #[.int .i64 too, .map (some W1.heap.size)] 75)) ((HRO.out.alloc _).alloc _) (by rw [hSz]; unfold maxLen; have := HLN.out; omega) (by rw [hSz]; have := HLN.out; omega)
  simp only [World.size_alloc] at hS
  have HKK := Aside0.mk hkk
  clear hkk hSz
  refine hS.mono ?_
  rintro e W3 ⟨vN, ss, rfl, hp, hrow, -, hB3⟩
  have hnm : (ss.mergeSort (fun x y => decide (x ≤ y))).map Go.Proofs.encStr = encs Value.string ((sortN rows).map (fun x => x.f0)) := by
    have := Go.mergeSort_of_perm (hp.trans HKK.out.symm)
    rw [show (fun x y : List UInt8 => decide (x ≤ y)) = Go.leB from rfl, this]
    have := names_sorted rows
    rw [show (fun x y : List UInt8 => decide (x ≤ y)) = Go.leB from rfl] at this
    rw [this]
    simp [encs, List.map_map]
  have hsl : ss.length = ((sortN rows).map (fun x => x.f0)).length := by
    rw [List.length_map, (sortN_perm rows).length_eq, (hp.trans HKK.out.symm).length_eq]
    unfold namesOf
    rw [List.length_map]
  rw [hnm, hsl] at hrow
  obtain ⟨rs, hrs⟩ : ∃ rs, rs = sortN rows := ⟨_, rfl⟩
  rw [← hrs] at hrow
  have HRS := Aside0.mk hrs
  have HN : Aside0 (Kd.R Kd.string 9 W3 (W1.heap.size + 3) (fun k => k < W3.heap.size) vN (rs.map (fun x => x.f0))) := ⟨Kd.R_of_own hrow (fun k hk => own_lt hrow k hk)⟩
  have hB3' : Below (((W1.alloc (.map #[] 0)).alloc (.cells #[.int .i64 too, .map (some W1.heap.size)] 75)).alloc (.cells #[.map (some m)] 73)).heap.size (((W1.alloc (.map #[] 0)).alloc (.cells #[.int .i64 too, .map (some W1.heap.size)] 75)).alloc (.cells #[.map (some m)] 73)) W3 := by
    simp only [World.size_alloc]; exact hB3
  have HOUT : Aside0 (OutSt W3 W1.heap.size too (movedRows l (rs.take 0))) := ⟨((outSt_new W1 too).below (below_alloc (Below.refl _ _) _)).below hB3'⟩
  have HBW : Aside0 (Below W1.heap.size W1 W3) := ⟨below_then (below_alloc (below_alloc (below_alloc (Below.refl _ _) _) _) _) (by simp; omega) hB3'⟩
  have HW3 : Aside0 (W1.heap.size + 3 ≤ W3.heap.size) := ⟨by have := hB3'.size; simp only [World.size_alloc] at this; omega⟩
  have HG : Aside0 (Kd.R Kd.string 9 W3 W3.heap.size (fun _ => True) (.slice none 0 0) (goneNames l (rs.take 0))) := ⟨Kd.R_nil _ _ _ _ _⟩
  obtain ⟨AN, cN, rfl⟩ := Kd.R_slice HN.out
  obtain ⟨N, hN⟩ : ∃ N, N = (rs.map (fun x => x.f0)).length := ⟨_, rfl⟩
  have hNl : N = rs.length := by rw [hN, List.length_map]
  have HNL := Aside0.mk hNl
  have hNb : N ≤ 1099511627776 := by rw [hNl, hrs, (sortN_perm rows).length_eq]; exact HLN.out
  rw [← hN] at HN
  rw [← hN]
  have HNN := Aside0.mk hN
  clear hS hp hrow hnm hsl hB3 hB3' hrs hN hNl c0 c1 hmm HKK d1
  go_wp2_with fail
  go_loopg [11, 43] N (fun kq v11 v43 wr => ∃ (k : Nat), v43 = .int .i64 k ∧ k ≤ N ∧ N - k ≤ kq ∧ Aside0 (Kd.R Kd.string 9 wr W3.heap.size (fun _ => True) v11 (goneNames l (rs.take k))) ∧
    Aside0 (Kd.R Kd.string 9 wr (W1.heap.size + 3) (fun k => k < W3.heap.size) (.slice AN N cN) (rs.map (fun x => x.f0))) ∧ Aside0 (OutSt wr W1.heap.size too (movedRows l (rs.take k))) ∧ Aside0 (Below W1.heap.size W1 wr) ∧ Aside0 (W3.heap.size ≤ wr.heap.size))
  case atStart => exact ⟨0, rfl, Nat.zero_le _, by omega, HG, HN, HOUT, HBW, ⟨Nat.le_refl _⟩⟩
  case round =>
    clear HG HN HOUT HBW
    obtain ⟨k, rfl, hk, hkq, HG, HN, HOUT, HBW, HSZ⟩ := hrel
    by_cases hkn : k < N
    · have e1 : decide ((k : Int) < (N : Int)) = true := decide_eq_true (by omega)
      obtain ⟨k2, hk2_⟩ : ∃ k2, k2 = k + 1 := ⟨_, rfl⟩
      have e2 : IntKind.i64.wrap ((k : Int) + 1) = (k2 : Int) := by rw [IntKind.wrap_i64]; omega
      have e3 : (k : Int) + 1 = (k2 : Int) := by omega
      have HK2 := Aside0.mk hk2_
      clear hk2_
      have hkr : k < rs.length := by rw [← HNL.out]; exact hkn
      obtain ⟨gn, capn, hform, -⟩ := Kd.R_form HN.out (by rw [← HNN.out]; omega)
      injection hform with hA hA2 hA3
      subst hA
      clear hA2 hA3
      obtain ⟨cc, -, hM, hcell, -⟩ := Kd.R_elem HN.out ⟨#[]⟩ (k : Int) (by omega) (by omega)
      have hxk : (rs.map (fun x => x.f0)).getD ((k : Int)).toNat ⟨#[]⟩ = rs[k].f0 := by
        rw [Int.toNat_natCast, List.getD_eq_getElem?_getD, List.getElem?_map, List.getElem?_eq_getElem hkr]; rfl
      rw [hxk] at hM
      have hce : cc = [.string rs[k].f0] := hM
      subst hce
      have cn : wr.cell? ⟨gn, k, none⟩ = some (.string rs[k].f0) := by
        have := hcell 0 _ rfl
        simpa [Kd.string, Kd.scalar] using this
      have hmem : rs[k] ∈ rows := (sortN_perm rows).mem_iff.1 (by rw [← HRS.out]; exact List.getElem_mem hkr)
      have hok := HRW.out _ hmem
      have hget : getV rows rs[k].f0 = some rs[k] := getV_mem HRA.out.nodup hmem
      have htk : rs.take (k + 1) = rs.take k ++ [rs[k]] := List.take_succ_eq_append_getElem hkr
      have hnew : ∀ y ∈ movedRows l (rs.take k), y.f0 ≠ (movR l rs[k]).f0 := by
        intro y hy e
        unfold movedRows at hy
        obtain ⟨z, hz, rfl⟩ := List.mem_map.1 (List.mem_filter.1 hy).1
        have hnd := HRA.out.nodup
        have hnd2 : (rs.map (fun x => x.f0)).Nodup := by rw [HRS.out]; exact ((sortN_perm rows).map _).nodup_iff.2 hnd
        rw [← List.take_append_drop k rs, List.map_append, List.nodup_append] at hnd2
        exact hnd2.2.2 z.f0 (List.mem_map.2 ⟨z, hz, rfl⟩) rs[k].f0 (List.mem_map.2 ⟨rs[k], by rw [List.drop_eq_getElem_cons hkr]; exact List.mem_cons_self, rfl⟩) e
      generalize rs[k] = x at cn hmem hok hget htk hnew
      have HTK := Aside0.mk htk
      have HNW := Aside0.mk hnew
      have hRO := (HRO.out.kept (grown_of_below HBW.out none) (by simp) : wr.ownsMap Try.prog 9 readR m rows.length D)
      have hlook := look_rows1 hRO HRA.out (s := x.f0) (by unfold maxLen; have := hok.1; omega)
      rw [hget, Option.getD_some] at hlook
      obtain ⟨hok0, hok1, hok2, hok3, hok4, hok5, hok6⟩ := hok
      have hvp := HF.out
      have p1 := place_tells l HS.out HV.out x.f1 x.f3 hok1 (by rw [hvp]; exact hok2) hok5 (6 * l.length + 4) (by omega)
      have p2 := place_tells l HS.out HV.out x.f2 x.f4 hok3 (by rw [hvp]; exact hok4) hok6 (6 * l.length + 4) (by omega)
      have c1 : wr.cell? ⟨b, 1, none⟩ = some (.map (some m)) := (HBW.out.cell (World.block_lt_of_cell? _ _ C1.out)).trans C1.out
      have HP1 := Aside0.mk p1
      have HP2 := Aside0.mk p2
      clear hM hcell hxk hmem hget htk hnew hRO hvp p1 p2 hok1 hok2 hok3 hok4 hok5 hok6 hkr
      obtain ⟨x0, x1, x2, x3, x4⟩ := x
      unfold encR at hlook
      simp only at cn hlook
      obtain ⟨y1, hy1⟩ : ∃ y1, placeV l x1 x3 = y1 := ⟨_, rfl⟩
      obtain ⟨y2, hy2⟩ : ∃ y2, placeV l x2 x4 = y2 := ⟨_, rfl⟩
      have HY1 := Aside0.mk hy1
      have HY2 := Aside0.mk hy2
      replace HP1 : Aside0 (shift_Place.f (6 * l.length + 4) l x1 x3 = some (y1, 0)) := ⟨by rw [← hy1]; exact HP1.out⟩
      replace HP2 : Aside0 (shift_Place.f (6 * l.length + 4) l x2 x4 = some (y2, 0)) := ⟨by rw [← hy2]; exact HP2.out⟩
      clear hy1 hy2
      have HB0 := Aside0.mk (below_then HB1.out HB1.out.size HBW.out)
      have hlw := HB0.out.size
      go_wp2_with fail
      refine (shift_Place.calls (6 * l.length + 4) A c l x1 x3 y1 0 _ (Kd.C_below HR.out (below_alloc HB0.out _)) hc HP1.out).mono ?_
      rintro e Wp ⟨rfl, Bp⟩
      have hxp : Wp.heap[wr.heap.size]? = some (.cells #[.string x0, .int .i64 x1, .int .i64 x2, .int .i64 x3, .int .i64 x4] 24 (0, 0)) := (Bp.block _ (by simp)).trans (MapKept.heap_alloc wr _).1
      have HBp := Aside0.mk (below_then (below_alloc (Below.refl wr.heap.size wr) _) (by simp) Bp)
      have z0 := (blk_cell hxp 0).trans rfl
      have z1 := (blk_cell hxp 1).trans rfl
      have z2 := (blk_cell hxp 2).trans rfl
      have z3 := (blk_cell hxp 3).trans rfl
      have z4 := (blk_cell hxp 4).trans rfl
      have f1 := blk_frozen hxp 1
      have HXp := Aside0.mk hxp
      clear hxp Bp cn hlook c1
      go_wp2_with fail
      have hBs : Below wr.heap.size wr (Wp.setCell ⟨wr.heap.size, 1, none⟩ (.int .i64 y1)) := below_set HBp.out (Nat.le_refl _)
      refine (shift_Place.calls (6 * l.length + 4) A c l x2 x4 y2 0 _ (Kd.C_below HR.out (below_then HB0.out HB0.out.size hBs)) hc HP2.out).mono ?_
      rintro e Wq ⟨rfl, Bq⟩
      have hxs := blk_set HXp.out 1 (.int .i64 y1)
      have hxq : Wq.heap[wr.heap.size]? = some (.cells #[.string x0, .int .i64 y1, .int .i64 x2, .int .i64 x3, .int .i64 x4] 24 (0, 0)) := (Bq.block _ (blk_lt hxs)).trans hxs
      have HBq := Aside0.mk (below_then hBs hBs.size Bq)
      clear z0 z1 z2 z3 z4 f1 hxs hBs Bq
      have z0 := (blk_cell hxq 0).trans rfl
      have z1 := (blk_cell hxq 1).trans rfl
      have z2 := (blk_cell hxq 2).trans rfl
      have z3 := (blk_cell hxq 3).trans rfl
      have z4 := (blk_cell hxq 4).trans rfl
      have f2 := blk_frozen hxq 2
      have hxz := blk_set hxq 2 (.int .i64 y2)
      have HXz := Aside0.mk (show (Wq.setCell ⟨wr.heap.size, 2, none⟩ (.int .i64 y2)).heap[wr.heap.size]? = some (.cells #[.string x0, .int .i64 y1, .int .i64 y2, .int .i64 x3, .int .i64 x4] 24 (0, 0)) from hxz)
      have HBz := Aside0.mk (below_set (g := wr.heap.size) (j := 2) (v := .int .i64 y2) HBq.out (Nat.le_refl _))
      clear hxq hxz
      by_cases hlt : y1 < y2
      · have d2 : decide (y1 < y2) = true := decide_eq_true hlt
        go_wp2_with fail
        obtain ⟨Wz, HWz⟩ : ∃ Wz, Wz = Wq.setCell ⟨wr.heap.size, 2, none⟩ (.int .i64 y2) := ⟨_, rfl⟩
        rw [← HWz] at HXz HBz ⊢
        clear HWz
        obtain ⟨hbo, D2, ho2, ha2⟩ := HOUT.out.below HBz.out
        have c2 : Wz.cell? ⟨W1.heap.size + 1, 1, none⟩ = some (.map (some W1.heap.size)) := (blk_cell hbo 1).trans rfl
        have z0 := (blk_cell HXz.out 0).trans rfl
        have z1 := (blk_cell HXz.out 1).trans rfl
        have z2 := (blk_cell HXz.out 2).trans rfl
        have z3 := (blk_cell HXz.out 3).trans rfl
        have z4 := (blk_cell HXz.out 4).trans rfl
        obtain ⟨W4, hup, ho4, ht4⟩ := (World.ownsMap.drew ho2).store lawStr Try.underlying73 (by unfold maxLen; have := movedRows_len l (rs.take k); rw [List.length_take] at this; omega) (Go.WideMaps.keyOf_string_mk Try.underlying9 (s := x0) (by unfold maxLen; omega)) (readR_enc ⟨x0, y1, y2, x3, x4⟩)
        change (Instr.mapUpdate 73 (.map (some W1.heap.size)) (.string x0) (.agg #[.string x0, .int .i64 y1, .int .i64 y2, .int .i64 x3, .int .i64 x4])).run Try.prog Wz.drew = .ok () W4 at hup
        have HNEW := Aside0.mk (OutSt.put (W3 := Wz.drew) (x := ⟨x0, y1, y2, x3, x4⟩) ha2 ho4 hbo (World.ownsMap.drew ho2) ht4 (by have := HNW.out; exact this))
        have HGR := Aside0.mk (ht4.grown)
        clear hbo ho2 ha2 ho4 ht4
        go_big_region
        all_goals
          have HG4 : Aside0 (Kd.R Kd.string 9 W4 W3.heap.size (fun _ => True) u11 (goneNames l (rs.take k))) := ⟨Kd.R_mono (Kd.R_grown (Kd.R_mono (ok' := fun k => W3.heap.size ≤ k) (Kd.R_bound (Kd.R_drew (Kd.R_below HG.out HBz.out))) (fun k hk => hk.2.1)) HGR.out (fun k hk e => by have := Option.some.inj e; have := HW3.out; omega)) (fun _ _ => trivial)⟩
          have HN4 : Aside0 (Kd.R Kd.string 9 W4 (W1.heap.size + 3) (fun k => k < W3.heap.size) (.slice (some ⟨gn, 0, none⟩) N cN) (rs.map (fun x => x.f0))) := ⟨Kd.R_mono (Kd.R_grown (Kd.R_mono (ok' := fun k => k < W3.heap.size ∧ W1.heap.size + 3 ≤ k) (Kd.R_bound (Kd.R_drew (Kd.R_below HN.out HBz.out))) (fun k hk => ⟨hk.1, hk.2.1⟩)) HGR.out (fun k hk e => by have := Option.some.inj e; omega)) (fun _ hk => hk.1)⟩
          have HB4 := Aside0.mk ((below_then HBW.out HBW.out.size HBz.out).drew.grown HGR.out (Nat.le_trans HBW.out.size HBz.out.size) (fun k e => by cases e; exact Nat.le_refl _))
          have HS4 := Aside0.mk (Nat.le_trans HSZ.out (Nat.le_trans HBz.out.size HGR.out.size))
          clear hup c2 z0 z1 z2 z3 z4 f2
          go_wp2_with fail
          go_roundg (N - k2)
          case measure => have := HK2.out; omega
          case rel =>
            refine ⟨k2, rfl, by have := HK2.out; omega, Nat.le_refl _, ?_, HN4, ?_, HB4, HS4⟩
            · rw [HK2.out, HTK.out, goneNames_snoc, if_pos (by simp only; rw [HY1.out, HY2.out]; exact of_decide_eq_true d2), List.append_nil]; exact HG4
            · rw [HK2.out, HTK.out, movedRows_snoc, if_pos (by simp only; rw [HY1.out, HY2.out]; exact of_decide_eq_true d2)]
              have e : movR l ⟨x0, x1, x2, x3, x4⟩ = ⟨x0, y1, y2, x3, x4⟩ := by unfold movR; simp only; rw [HY1.out, HY2.out]
              rw [e]; exact HNEW
      · have d2 : decide (y1 < y2) = false := decide_eq_false hlt
        go_wp2_with ((with_reducible refine gate_builtin (b := .append) (xs := #[.tmp 84, .tmp 86]) rfl ?_); at_builtin; refine Kd.R_append Kd.string (w0 := Wq.setCell ⟨wr.heap.size, 2, none⟩ (.int .i64 y2)) W3.heap.size rfl (.tmp 84) (.tmp 86) 33 9 (.string ⟨#[]⟩) 16 rfl Try.underlying33 infoStr9 rfl (by decide) (by decide) u11 (goneNames l (rs.take k)) x0 [.string x0] (fun _ => True) (fun _ => False) rfl (by rw [World.size_setCell]; rfl) rfl (fun _ h => h.elim) (fun _ _ => trivial) (Kd.R_below HG.out HBz.out) (Below.refl _ _) ?hb ?hl ?_
                     (case hb => have := HSZ.out; have := HBz.out.size; omega)
                     (case hl => have := goneNames_len l (rs.take k); rw [List.length_take] at this; omega)
                     intro v1 w1 hr1 hb1 hg1 hat1
                     have HR1 := Aside0.mk hr1
                     have HB1' := Aside0.mk hb1
                     have HG1 := Aside0.mk hg1
                     clear hr1 hb1 hg1 hat1)
        have HN4 : Aside0 (Kd.R Kd.string 9 w1 (W1.heap.size + 3) (fun k => k < W3.heap.size) (.slice (some ⟨gn, 0, none⟩) N cN) (rs.map (fun x => x.f0))) := ⟨Kd.R_step (Kd.R_below HN.out HBz.out) (fun k hk _ => HB1'.out.block k hk)⟩
        have HO4 : Aside0 (OutSt w1 W1.heap.size too (movedRows l (rs.take k))) := ⟨(HOUT.out.below HBz.out).step (HB1'.out.block _ (by have := HW3.out; omega)) (HB1'.out.block _ (by have := HW3.out; omega))⟩
        have HB4 := Aside0.mk ((below_then HBW.out HBW.out.size HBz.out).trans (⟨HB1'.out.os, HB1'.out.tape, HB1'.out.output, HB1'.out.size, fun k hk => HB1'.out.block k (by have := HW3.out; omega)⟩ : Below W1.heap.size _ w1))
        have HS4 := Aside0.mk (Nat.le_trans HSZ.out (Nat.le_trans HBz.out.size HB1'.out.size))
        go_roundg (N - k2)
        case measure => have := HK2.out; omega
        case rel =>
          refine ⟨k2, rfl, by have := HK2.out; omega, Nat.le_refl _, ?_, HN4, ?_, HB4, HS4⟩
          · rw [HK2.out, HTK.out, goneNames_snoc, if_neg (by simp only; rw [HY1.out, HY2.out]; exact of_decide_eq_false d2)]; exact HR1
          · rw [HK2.out, HTK.out, movedRows_snoc, if_neg (by simp only; rw [HY1.out, HY2.out]; exact of_decide_eq_false d2), List.append_nil]; exact HO4
    · have e1 : decide ((k : Int) < (N : Int)) = false := decide_eq_false (by omega)
      obtain rfl : k = N := by omega
      have ht : rs.take k = rs := by rw [HNL.out, List.take_length]
      rw [ht] at HG HOUT
      clear ht
      obtain ⟨A11, c11, rfl⟩ := Kd.R_slice HG.out
      go_wp2_with fail
      go_ret3
      rw [← HRS.out]
      exact ⟨_, _, rfl, HOUT.out.robj, Kd.R_lower HG.out (by have := HB1.out.size; have := HW3.out; omega), below_then HB1.out HB1.out.size HBW.out⟩
end Go.Proofs.Ytjladdjpnicldaa.PA
