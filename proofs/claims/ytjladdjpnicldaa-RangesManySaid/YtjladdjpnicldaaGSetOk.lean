/- Set where all is right, over objects. -/
import Derived.Test.YtjladdjpnicldaaGMeth
import Derived.Test.YtjladdjpnicldaaIter
import Derived.BigRegion
namespace Go.Proofs.Ytjladdjpnicldaa.PA
open Go.RowKit Go.Maps Go.Proofs.YtjladdjpnicldaaW.PrintWords Go.Proofs.YtjladdjpnicldaaW.PrintLast Go.Proofs.YtjladdjpnicldaaW.PrintMore

theorem keep_cell {W w1 : World} {a : Addr} {v : Value} (hB : Below W.heap.size W w1) (h : W.cell? a = some v) : w1.cell? a = some v := (hB.cell (World.block_lt_of_cell? _ _ h)).trans h
theorem keep_below {w W w1 : World} (hB : Below W.heap.size W w1) (h : Below w.heap.size w W) : Below w.heap.size w w1 := below_then h h.size hB

/-- the rows behind a store -/
def setRows (rows : List S24) (x : S24) : List S24 := x :: rows.filter (fun y => !decide (y.f0 = x.f0))
theorem nodup_set {rows : List S24} (h : (rows.map (fun x => x.f0)).Nodup) (x : S24) : ((setRows rows x).map (fun x => x.f0)).Nodup := by
  unfold setRows
  rw [List.map_cons, List.nodup_cons]
  refine ⟨fun hm => ?_, ?_⟩
  · obtain ⟨y, hy, e⟩ := List.mem_map.1 hm
    have := (List.mem_filter.1 hy).2
    simp [e] at this
  · exact List.Pairwise.sublist (List.filter_sublist.map _) h
theorem mem_set {rows : List S24} {x y : S24} : y ∈ setRows rows x ↔ y = x ∨ (y ∈ rows ∧ y.f0 ≠ x.f0) := by
  unfold setRows
  rw [List.mem_cons, List.mem_filter]
  simp
/-- the object behind the store into its map -/
theorem obj_put {W3 W4 : World} {o m : Nat} {n : Int} {rows : List S24} {D : DataW Unit} {x : S24} (ha : Agree D rows) (ho : W4.ownsMap Try.prog 9 readR m (rows.length + 1) (D.put (keyL x.f0) (datR x))) (hb : W3.heap[o]? = some (.cells #[.int .i64 n, .map (some m)] 75 (0, 0)))
    (ho3 : W3.ownsMap Try.prog 9 readR m rows.length D) (ht : W3.mapTurned W4 m) : RObj W4 o n (setRows rows x) := by
  have ha2 := ha.put ho3.isMap x (nodup_set ha.nodup x) (fun y => mem_set)
  have hk := (ha2.keys Try.underlying9 ho).2
  have hne : some o ≠ some m := fun e => by
    cases e
    obtain ⟨es, clock, hm, -⟩ := ho3
    rw [hm] at hb
    cases hb
  refine ⟨m, _, ?_, hk ▸ tight ho, ha2⟩
  exact (ht.grown.block o (blk_lt hb) hne).trans hb

set_option maxHeartbeats 4000000 in
set_option maxRecDepth 100000 in
theorem set_ok (x : S24) (w : World) (b : Nat) (n : Int) (rows : List S24) (h : RObj w b n rows) (h0 : ¬ (x.f0.size = 0 ∨ 64 < x.f0.size)) (h1 : ¬ (x.f1 < 0 ∨ x.f1 ≥ x.f2 ∨ x.f2 > n ∨ gravV x.f3 = false ∨ gravV x.f4 = false)) (hm : ¬ ((getV rows x.f0).isSome = false ∧ 1024 ≤ rows.length)) (hr : rows.length ≤ 1099511627776) :
    Calls Try.prog 11 #[.pointer (some ⟨b, 0, none⟩), encR x] w fun e w' => ∃ b', e = .returned (.tuple #[.pointer (some ⟨b', 0, none⟩), .int .i64 0]) ∧ RObj w' b' n (setRows rows x) ∧ Below w.heap.size w w' := by
  obtain ⟨x0, x1, x2, x3, x4⟩ := x
  simp only at h0 h1
  unfold encR
  obtain ⟨m, D, hb, ho, ha⟩ := h
  have c0 : (w.alloc (.cells #[.string x0, .int .i64 x1, .int .i64 x2, .int .i64 x3, .int .i64 x4] 24)).cell? ⟨b, 0, none⟩ = some (.int .i64 n) := (blk_cell (blk_alloc hb _) 0).trans rfl
  have c1 : (w.alloc (.cells #[.string x0, .int .i64 x1, .int .i64 x2, .int .i64 x3, .int .i64 x4] 24)).cell? ⟨b, 1, none⟩ = some (.map (some m)) := (blk_cell (blk_alloc hb _) 1).trans rfl
  have d1 : ((x0.size : Int) == 0) = false := beq_eq_false_iff_ne.2 (by omega)
  have d2 : decide (64 < (x0.size : Int)) = false := decide_eq_false (by omega)
  have d3 : decide (x1 < 0) = false := decide_eq_false (fun e => h1 (.inl e))
  have d4 : decide (x2 ≤ x1) = false := decide_eq_false (fun e => h1 (.inr (.inl e)))
  have d5 : decide (n < x2) = false := decide_eq_false (fun e => h1 (.inr (.inr (.inl e))))
  have hg3 : ∀ W, Calls Try.prog 28 #[.int .i64 x3] W fun e w' => e = .returned (.bool true) ∧ w' = W := fun W => by have := gravity_walk x3 W; rwa [Bool.of_not_eq_false (fun e => h1 (.inr (.inr (.inr (.inl e)))))] at this
  have hg4 : ∀ W, Calls Try.prog 28 #[.int .i64 x4] W fun e w' => e = .returned (.bool true) ∧ w' = W := fun W => by have := gravity_walk x4 W; rwa [Bool.of_not_eq_false (fun e => h1 (.inr (.inr (.inr (.inr e)))))] at this
  have hsz : x0.size ≤ maxLen := by unfold maxLen; omega
  have hkey := Go.WideMaps.keyOf_string_mk Try.underlying9 (s := x0) hsz
  have hv := Aside0.mk (readR_enc ⟨x0, x1, x2, x3, x4⟩)
  have hkey2 := Aside0.mk hkey
  have HO := Aside0.mk ho
  have HA := Aside0.mk ha
  clear hb h0 h1 ho ha
  go_enter Try.func11, Try.ntmps11
  go_wp2_with fail
  go_quiet ((go_at_call 28; first | exact Calls.quiet_of_same (hg3 _) | exact Calls.quiet_of_same (hg4 _)))
  go_wp2_with fail
  obtain ⟨Wq, HW⟩ : ∃ Wq, Wq = (w.alloc (.cells #[.string x0, .int .i64 x1, .int .i64 x2, .int .i64 x3, .int .i64 x4] 24)).drewN nq := ⟨_, rfl⟩
  rw [← HW]
  have k1 : Wq.cell? ⟨b, 1, none⟩ = some (.map (some m)) := by rw [HW]; exact c1
  have kx : Wq.cell? ⟨w.heap.size, 0, none⟩ = some (.string x0) := by rw [HW]; exact (blk_cell (MapKept.heap_alloc w _).1 0).trans rfl
  have ho2 : Wq.ownsMap Try.prog 9 readR m rows.length D := by rw [HW]; exact (HO.out.alloc _)
  have k1b : ∀ Z, (Wq.alloc Z).cell? ⟨b, 1, none⟩ = some (.map (some m)) := fun Z => cell_later k1 Z
  have kxb : ∀ Z, (Wq.alloc Z).cell? ⟨w.heap.size, 0, none⟩ = some (.string x0) := fun Z => cell_later kx Z
  have hA : (Instr.lookup 73 (.map (some m)) (.string x0) true).run Try.prog Wq = .ok (.tuple #[encR ((getV rows x0).getD z24), .bool (getV rows x0).isSome]) Wq := look_rows (W := Wq) (ho2) HA.out hsz
  have hA1 : (Instr.lookup 73 (.map (some m)) (.string x0) true).run Try.prog Wq.drew = .ok (.tuple #[encR ((getV rows x0).getD z24), .bool (getV rows x0).isSome]) Wq.drew := look_rows (W := Wq.drew) (ho2) HA.out hsz
  have hB : (Instr.lookup 73 (.map (some m)) (.string x0) true).run Try.prog (Wq.alloc (.cells #[.string ⟨#[]⟩, .int .i64 0, .int .i64 0, .int .i64 0, .int .i64 0] 24)) = .ok (.tuple #[encR ((getV rows x0).getD z24), .bool (getV rows x0).isSome]) (Wq.alloc (.cells #[.string ⟨#[]⟩, .int .i64 0, .int .i64 0, .int .i64 0, .int .i64 0] 24)) := look_rows (W := (Wq.alloc (.cells #[.string ⟨#[]⟩, .int .i64 0, .int .i64 0, .int .i64 0, .int .i64 0] 24))) (ho2.alloc _) HA.out hsz
  have hB1 : (Instr.lookup 73 (.map (some m)) (.string x0) true).run Try.prog (Wq.alloc (.cells #[.string ⟨#[]⟩, .int .i64 0, .int .i64 0, .int .i64 0, .int .i64 0] 24)).drew = .ok (.tuple #[encR ((getV rows x0).getD z24), .bool (getV rows x0).isSome]) (Wq.alloc (.cells #[.string ⟨#[]⟩, .int .i64 0, .int .i64 0, .int .i64 0, .int .i64 0] 24)).drew := look_rows (W := (Wq.alloc (.cells #[.string ⟨#[]⟩, .int .i64 0, .int .i64 0, .int .i64 0, .int .i64 0] 24)).drew) (ho2.alloc _) HA.out hsz
  have k0 : Wq.cell? ⟨b, 0, none⟩ = some (.int .i64 n) := by rw [HW]; exact c0
  generalize (getV rows x0).getD z24 = y at hA hA1 hB hB1
  obtain ⟨y0, y1, y2, y3, y4⟩ := y
  unfold encR at hA hA1 hB hB1
  obtain ⟨ok, hok⟩ : ∃ ok, ok = (getV rows x0).isSome := ⟨_, rfl⟩
  rw [← hok] at hA hA1 hB hB1 hm
  have HM := Aside0.mk hm
  have HOK := Aside0.mk hok
  have HW2 := Aside0.mk HW
  have HO2 := Aside0.mk ho2
  clear HW ho2 hkey c0 c1 hm hsz hok
  cases ok
  all_goals
    simp only at hA hA1 hB hB1
    go_big_region
    all_goals
      clear hA hA1 hB hB1
      have hlen := fun ty => ((HO2.out.alloc (.cells #[.string y0, .int .i64 y1, .int .i64 y2, .int .i64 y3, .int .i64 y4] 24)).drew).len Try.underlying73 ty
      rw [(HA.out.keys Try.underlying9 HO2.out).2] at hlen
      have d6 : decide (1024 ≤ (rows.length : Int)) = false ∨ True := by
        by_cases h : rows.length < 1024
        · exact .inl (decide_eq_false (by omega))
        · exact .inr trivial
      first
        | (have d7 : decide (1024 ≤ (rows.length : Int)) = false := decide_eq_false (fun h => HM.out ⟨rfl, by omega⟩)
           clear d6
           go_wp2_with fail)
        | (clear d6; go_wp2_with fail)
      clear hlen
      obtain ⟨W2, HV⟩ : ∃ W2, W2 = (Wq.alloc (.cells #[.string y0, .int .i64 y1, .int .i64 y2, .int .i64 y3, .int .i64 y4] 24)).drew := ⟨_, rfl⟩
      rw [← HV]
      have q0 : W2.cell? ⟨b, 0, none⟩ = some (.int .i64 n) := by rw [HV]; exact cell_later k0 _
      have q1 : W2.cell? ⟨b, 1, none⟩ = some (.map (some m)) := by rw [HV]; exact cell_later k1 _
      have q2 : W2.ownsMap Try.prog 9 readR m rows.length D := by rw [HV]; exact (HO2.out.alloc _).drew
      have q3 := Below.refl W2.heap.size W2
      have HV2 := Aside0.mk HV
      clear HV k1 kx k1b kxb k0
      go_region_held3 (fun w' => w'.cell? ⟨b, 0, none⟩ = some (.int .i64 n) ∧ w'.cell? ⟨b, 1, none⟩ = some (.map (some m)) ∧ w'.ownsMap Try.prog 9 readR m rows.length D ∧ Below W2.heap.size W2 w')
        (first
          | exact ⟨by assumption, by assumption, by assumption, by assumption⟩
          | (go_split_ands
             first
               | exact ⟨by assumption, by assumption, by assumption, by assumption⟩
               | exact ⟨by go_keep, by go_keep, World.ownsMap.drew (by assumption), below_drew1 (by assumption)⟩
               | exact ⟨keep_cell hB (by assumption), keep_cell hB (by assumption), h2, keep_below hB (by assumption)⟩
               | exact ⟨cell_later (by assumption) _, cell_later (by assumption) _, World.ownsMap.alloc (by assumption) _, below_alloc (by assumption) _⟩))
        (first | (go_at_call 29; refine (cloneK readR m rows.length D _ ?_).mono ?_; (assumption); rintro e w1 ⟨rfl, h1, h2, hB⟩))
      all_goals
        have h3 := Aside0.mk (h1.alloc (.cells #[.int .i64 n, .map (some W2.heap.size)] 75))
        obtain ⟨W3, HX⟩ : ∃ W3, W3 = w1.alloc (.cells #[.int .i64 n, .map (some W2.heap.size)] 75) := ⟨_, rfl⟩
        rw [← HX]
        obtain ⟨HXb, HXB, HSZ⟩ : Aside0 (W3.heap[w1.heap.size]? = some (.cells #[.int .i64 n, .map (some W2.heap.size)] 75 (0, 0))) ∧ Aside0 (Below w.heap.size w W3) ∧ Aside0 (w.heap.size ≤ W2.heap.size) := by
          have hB0 : Below w.heap.size w W2.drew := by
            rw [HV2.out, HW2.out]
            exact below_drew1 (below_drew1 (below_alloc (pw_below_drewN (below_alloc (Below.refl _ _) _) _) _))
          exact ⟨⟨by rw [HX]; exact (MapKept.heap_alloc w1 _).1⟩, ⟨by rw [HX]; exact below_alloc (below_then hB0 hB0.size hB) _⟩, ⟨hB0.size⟩⟩
        have r1 : W3.cell? ⟨w1.heap.size, 1, none⟩ = some (.map (some W2.heap.size)) := (blk_cell HXb.out 1).trans rfl
        have hx3 : W3.heap[w.heap.size]? = some (.cells #[.string x0, .int .i64 x1, .int .i64 x2, .int .i64 x3, .int .i64 x4] 24 (0, 0)) := by
          have hx0 : Wq.heap[w.heap.size]? = some (.cells #[.string x0, .int .i64 x1, .int .i64 x2, .int .i64 x3, .int .i64 x4] 24 (0, 0)) := by rw [HW2.out]; exact (MapKept.heap_alloc w _).1
          have hx2 : W2.heap[w.heap.size]? = some (.cells #[.string x0, .int .i64 x1, .int .i64 x2, .int .i64 x3, .int .i64 x4] 24 (0, 0)) := by rw [HV2.out]; exact blk_alloc hx0 _
          have hx1 : w1.heap[w.heap.size]? = some (.cells #[.string x0, .int .i64 x1, .int .i64 x2, .int .i64 x3, .int .i64 x4] 24 (0, 0)) := (hB.block _ (blk_lt hx2)).trans hx2
          rw [HX]; exact blk_alloc hx1 _
        have rx0 := (blk_cell hx3 0).trans rfl
        have rx1 := (blk_cell hx3 1).trans rfl
        have rx2 := (blk_cell hx3 2).trans rfl
        have rx3 := (blk_cell hx3 3).trans rfl
        have rx4 := (blk_cell hx3 4).trans rfl
        rw [← HX] at h3
        obtain ⟨W4, hup, ho4, ht4⟩ := (World.ownsMap.drew h3.out).store lawStr Try.underlying73 (by unfold maxLen; omega) hkey2.out hv.out
        change (Instr.mapUpdate 73 (.map (some W2.heap.size)) (.string x0) (.agg #[.string x0, .int .i64 x1, .int .i64 x2, .int .i64 x3, .int .i64 x4])).run Try.prog W3.drew = .ok () W4 at hup
        have HF := Aside0.mk (obj_put (W3 := W3.drew) (x := ⟨x0, x1, x2, x3, x4⟩) HA.out ho4 HXb.out (World.ownsMap.drew h3.out) ht4)
        have HFB := Aside0.mk (ht4.grown)
        clear q0 q1 q2 q3 h1 h2 hB HX hx3 ho4 ht4
        go_wp2_with fail
        go_big_region
        all_goals
          go_wp2_with fail
          go_ret2
          exact ⟨_, rfl, HF.out, HXB.out.drew.grown HFB.out HXB.out.size (fun k e => by cases e; exact HSZ.out)⟩
end Go.Proofs.Ytjladdjpnicldaa.PA
