/- Drop over objects. -/
import Derived.Test.YtjladdjpnicldaaGSetOk
namespace Go.Proofs.Ytjladdjpnicldaa.PA
open Go.RowKit Go.Maps Go.Proofs.YtjladdjpnicldaaW.PrintWords Go.Proofs.YtjladdjpnicldaaW.PrintLast Go.Proofs.YtjladdjpnicldaaW.PrintMore

def dropRows (rows : List S24) (s : ByteArray) : List S24 := rows.filter (fun y => !decide (y.f0 = s))
theorem nodup_drop {rows : List S24} (h : (rows.map (fun x => x.f0)).Nodup) (s : ByteArray) : ((dropRows rows s).map (fun x => x.f0)).Nodup := List.Pairwise.sublist (List.filter_sublist.map _) h
theorem mem_drop {rows : List S24} {s : ByteArray} {y : S24} : y ∈ dropRows rows s ↔ y ∈ rows ∧ y.f0 ≠ s := by
  unfold dropRows
  rw [List.mem_filter]
  simp
theorem obj_del {W3 W4 : World} {o m : Nat} {n : Int} {rows : List S24} {D : DataW Unit} {s : ByteArray} (ha : Agree D rows) (ho : W4.ownsMap Try.prog 9 readR m rows.length (D.del (keyL s))) (hb : W3.heap[o]? = some (.cells #[.int .i64 n, .map (some m)] 75 (0, 0)))
    (ho3 : W3.ownsMap Try.prog 9 readR m rows.length D) (ht : W3.mapTurned W4 m) : RObj W4 o n (dropRows rows s) := by
  have ha2 := ha.del s (nodup_drop ha.nodup s) (fun y => mem_drop)
  have hk := (ha2.keys Try.underlying9 ho).2
  have hne : some o ≠ some m := fun e => by
    cases e
    obtain ⟨es, clock, hm, -⟩ := ho3
    rw [hm] at hb
    cases hb
  refine ⟨m, _, ?_, hk ▸ tight ho, ha2⟩
  exact (ht.grown.block o (blk_lt hb) hne).trans hb

set_option maxHeartbeats 1000000 in
set_option maxRecDepth 100000 in
theorem drop_nil (s : ByteArray) (w : World) : Calls Try.prog 12 #[.pointer none, .string s] w fun e w' => e = .returned (.tuple #[.pointer none, .int .i64 1]) ∧ Below w.heap.size w w' := by
  go_enter Try.func12, Try.ntmps12
  go_wp2_with fail
  go_ret2
  exact ⟨rfl, Below.refl _ _⟩

set_option maxHeartbeats 1000000 in
set_option maxRecDepth 100000 in
theorem drop_none (s : ByteArray) (w : World) (b : Nat) (n : Int) (rows : List S24) (h : RObj w b n rows) (hs : s.size ≤ maxLen) (hg : (getV rows s).isSome = false) :
    Calls Try.prog 12 #[.pointer (some ⟨b, 0, none⟩), .string s] w fun e w' => e = .returned (.tuple #[.pointer none, .int .i64 150]) ∧ Below w.heap.size w w' := by
  obtain ⟨m, D, hb, ho, ha⟩ := h
  have c1 : w.cell? ⟨b, 1, none⟩ = some (.map (some m)) := (blk_cell hb 1).trans rfl
  have hrun := look_rows ho ha hs
  rw [hg] at hrun
  generalize (getV rows s).getD z24 = y at hrun
  obtain ⟨y0, y1, y2, y3, y4⟩ := y
  unfold encR at hrun
  simp only at hrun
  clear hb ho ha hg
  go_enter Try.func12, Try.ntmps12
  go_wp2_with fail
  go_ret2
  exact ⟨rfl, (Below.refl _ _).alloc (Nat.le_refl _) _⟩

set_option maxHeartbeats 4000000 in
set_option maxRecDepth 100000 in
theorem drop_ok (s : ByteArray) (w : World) (b : Nat) (n : Int) (rows : List S24) (h : RObj w b n rows) (hs : s.size ≤ maxLen) (hg : (getV rows s).isSome = true) :
    Calls Try.prog 12 #[.pointer (some ⟨b, 0, none⟩), .string s] w fun e w' => ∃ b', e = .returned (.tuple #[.pointer (some ⟨b', 0, none⟩), .int .i64 0]) ∧ RObj w' b' n (dropRows rows s) ∧ Below w.heap.size w w' := by
  obtain ⟨m, D, hb, ho, ha⟩ := h
  have c0 : w.cell? ⟨b, 0, none⟩ = some (.int .i64 n) := (blk_cell hb 0).trans rfl
  have c1 : w.cell? ⟨b, 1, none⟩ = some (.map (some m)) := (blk_cell hb 1).trans rfl
  have hrun := look_rows ho ha hs
  rw [hg] at hrun
  generalize (getV rows s).getD z24 = y at hrun
  obtain ⟨y0, y1, y2, y3, y4⟩ := y
  unfold encR at hrun
  simp only at hrun
  have hkey2 := Aside0.mk (Go.WideMaps.keyOf_string_mk Try.underlying9 hs)
  have HO := Aside0.mk ho
  have HA := Aside0.mk ha
  clear hb ho ha hg hs
  go_enter Try.func12, Try.ntmps12
  go_wp2_with fail
  obtain ⟨W2, HV⟩ : ∃ W2, W2 = w.alloc (.cells #[.string y0, .int .i64 y1, .int .i64 y2, .int .i64 y3, .int .i64 y4] 24) := ⟨_, rfl⟩
  rw [← HV]
  have q0 : W2.cell? ⟨b, 0, none⟩ = some (.int .i64 n) := by rw [HV]; exact cell_later c0 _
  have q1 : W2.cell? ⟨b, 1, none⟩ = some (.map (some m)) := by rw [HV]; exact cell_later c1 _
  have q2 : W2.ownsMap Try.prog 9 readR m rows.length D := by rw [HV]; exact (HO.out.alloc _)
  have q3 := Below.refl W2.heap.size W2
  have HV2 := Aside0.mk HV
  clear HV c0 c1 hrun
  go_region_held3 (fun w' => w'.cell? ⟨b, 0, none⟩ = some (.int .i64 n) ∧ w'.cell? ⟨b, 1, none⟩ = some (.map (some m)) ∧ w'.ownsMap Try.prog 9 readR m rows.length D ∧ Below W2.heap.size W2 w')
    (first
      | exact ⟨by assumption, by assumption, by assumption, by assumption⟩
      | (go_split_ands
         first
           | exact ⟨by assumption, by assumption, by assumption, by assumption⟩
           | exact ⟨by go_keep, by go_keep, World.ownsMap.drew (by assumption), below_drew1 (by assumption)⟩
           | exact ⟨keep_cell hB (by assumption), keep_cell hB (by assumption), h2, keep_below hB (by assumption)⟩
           | exact ⟨cell_later (by assumption) _, cell_later (by assumption) _, World.ownsMap.alloc (by assumption) _, below_alloc (by assumption) _⟩))
    (first | (go_at_call 29; refine (cloneK readR m rows.length D _ ?_).mono ?_; (assumption); rintro e w1 ⟨rfl, h1, h2, hB⟩))
  all_goals
    have h3 := Aside0.mk (h1.alloc (.cells #[.int .i64 n, .map (some W2.heap.size)] 75))
    obtain ⟨W3, HX⟩ : ∃ W3, W3 = w1.alloc (.cells #[.int .i64 n, .map (some W2.heap.size)] 75) := ⟨_, rfl⟩
    rw [← HX]
    obtain ⟨HXb, HXB, HSZ⟩ : Aside0 (W3.heap[w1.heap.size]? = some (.cells #[.int .i64 n, .map (some W2.heap.size)] 75 (0, 0))) ∧ Aside0 (Below w.heap.size w W3) ∧ Aside0 (w.heap.size ≤ W2.heap.size) := by
      have hB0 : Below w.heap.size w W2.drew := by
        rw [HV2.out]
        exact below_drew1 (below_alloc (Below.refl _ _) _)
      exact ⟨⟨by rw [HX]; exact (MapKept.heap_alloc w1 _).1⟩, ⟨by rw [HX]; exact below_alloc (below_then hB0 hB0.size hB) _⟩, ⟨hB0.size⟩⟩
    have r1 : W3.cell? ⟨w1.heap.size, 1, none⟩ = some (.map (some W2.heap.size)) := (blk_cell HXb.out 1).trans rfl
    rw [← HX] at h3
    clear q0 q1 q2 q3 h1 h2 hB HX
    go_wp2_with (at_delete; refine wpList_delete_own _ rfl _ _ 73 9 rfl 24 lawStr Try.underlying73 readR W2.heap.size rows.length D rfl h3.out _ _ rfl hkey2.out ?_; intro w4 hown4 hturn4; have HF := Aside0.mk (obj_del (s := s) HA.out hown4 HXb.out h3.out hturn4); have HFB := Aside0.mk (hturn4.grown); clear hown4 hturn4)
    go_ret2
    exact ⟨_, rfl, HF.out, HXB.out.grown HFB.out HXB.out.size (fun k e => by cases e; exact HSZ.out)⟩
end Go.Proofs.Ytjladdjpnicldaa.PA
