/- step.first, step.at, step.inside: the step with which a text begins, the step at a place, how far ahead the encoding begins that goes over a place: each call hands back what the plain function of XGCore says. Condition: step.bad is laid (Laid). -/
import Derived.Test.YtdomggegacgmnaaDoorGCore
import Derived.Test.YtdomggegacgmnaaDoorGLaid
import Derived.Test.YtdomggegacgmnaaDoorPAx2
import Derived.Laws.RangeAny
import Derived.Laws.Runes
namespace Go.Proofs.YtdomggegacgmnaaDoor.PA
open Go.RowKit Go.Proofs.YtdomggegacgmnaaDoorW.PrintWords Go.Proofs.YtdomggegacgmnaaDoorW.PrintLast Go.Proofs.YtdomggegacgmnaaDoorW.PrintMore

/-- the world in which the range stands: the result's cells laid, the iterator behind them -/
def Ran (w : World) (a0 : ByteArray) (p : Nat) : World := (w.alloc (Obj.cells #[Value.int IntKind.i32 0, Value.int IntKind.i64 0, Value.bool false] 60)).iter a0 p
theorem ran_below (w : World) (a0 : ByteArray) (p : Nat) : Below w.heap.size w (Ran w a0 p) := by
  unfold Ran World.iter
  exact ((Below.refl _ _).alloc (Nat.le_refl _) _).alloc (by simp) _
theorem ran_block (w : World) (a0 : ByteArray) (p : Nat) : (Ran w a0 p).heap[w.heap.size]? = some (.cells #[Value.int IntKind.i32 0, Value.int IntKind.i64 0, Value.bool false] 60 (0, 0)) := by
  unfold Ran World.iter
  exact (Below.heap_alloc _ _ _ (by simp)).trans (heap_alloc_new w _)
theorem ran_next (w : World) (a0 : ByteArray) (ty : TypeId) (h : 0 < a0.size) : (Instr.next (.pointer (some ⟨w.heap.size + 1, 0, none⟩)) true ty).run Tryd.prog (Ran w a0 0) =
    .ok (.tuple #[.bool true, .int .i64 0, .int .i32 (Utf8.decode a0 0).1]) (Ran w a0 (Utf8.decode a0 0).2) := by
  have := run_next_any (P := Tryd.prog) (w.alloc (Obj.cells #[Value.int IntKind.i32 0, Value.int IntKind.i64 0, Value.bool false] 60)) a0 0 ty h
  unfold Ran
  simpa using this
theorem ran_end (w : World) (a0 : ByteArray) (ty : TypeId) (h : a0.size = 0) : (Instr.next (.pointer (some ⟨w.heap.size + 1, 0, none⟩)) true ty).run Tryd.prog (Ran w a0 0) = .ok (.tuple #[.bool false]) (Ran w a0 0) := by
  have := run_next_end (P := Tryd.prog) (w.alloc (Obj.cells #[Value.int IntKind.i32 0, Value.int IntKind.i64 0, Value.bool false] 60)) a0 0 ty (by omega)
  unfold Ran
  simpa using this

/-- what the walk asks of a world behind the range: step.bad, and the result's cells -/
structure Stands (w W : World) : Prop where mk ::
  (below : Below w.heap.size w W) (blk : W.heap[w.heap.size]? = some (.cells #[Value.int IntKind.i32 0, Value.int IntKind.i64 0, Value.bool false] 60 (0, 0)))
theorem Stands.drewN {w W : World} (h : Stands w W) (n : Nat) : Stands w (W.drewN n) := ⟨pw_below_drewN h.below n, h.blk⟩
theorem Stands.ran (w : World) (a0 : ByteArray) (p : Nat) : Stands w (Ran w a0 p) := ⟨ran_below w a0 p, ran_block w a0 p⟩
theorem Stands.c0 {w W : World} (h : Stands w W) : W.cell? ⟨w.heap.size, 0, none⟩ = some (.int .i32 0) := (blk_cell h.blk 0).trans rfl
theorem Stands.c1 {w W : World} (h : Stands w W) : W.cell? ⟨w.heap.size, 1, none⟩ = some (.int .i64 0) := (blk_cell h.blk 1).trans rfl
theorem Stands.c2 {w W : World} (h : Stands w W) : W.cell? ⟨w.heap.size, 2, none⟩ = some (.bool false) := (blk_cell h.blk 2).trans rfl
theorem Stands.f {w W : World} (h : Stands w W) (j : Nat) : W.frozen? ⟨w.heap.size, j, none⟩ = false := by
  unfold World.frozen?
  rw [h.blk]
  simp
theorem Stands.store {w W : World} (h : Stands w W) (a b c : Value) : Below w.heap.size w (((W.setCell ⟨w.heap.size, 0, none⟩ a).setCell ⟨w.heap.size, 1, none⟩ b).setCell ⟨w.heap.size, 2, none⟩ c) :=
  ((h.below.setCell (Nat.le_refl _) _).setCell (Nat.le_refl _) _).setCell (Nat.le_refl _) _

theorem hasPrefix_f (s : ByteArray) : strings_HasPrefix.f s ⟨#[239, 191, 189]⟩ = some (decide ((s.extract 0 3).toList = [239, 191, 189])) := by
  unfold strings_HasPrefix.f stringslite_HasPrefix.f
  have e : ((⟨#[239, 191, 189]⟩ : ByteArray).size : Int) = 3 := rfl
  rw [e]
  by_cases h : (s.size : Int) ≥ 3
  · rw [if_pos h, if_pos (by omega), if_pos (by omega)]
    simp only [Option.bind_some, Option.some.injEq]
    rw [show ((3 : Int) : Int).toNat = 3 from rfl, show (⟨#[239, 191, 189]⟩ : ByteArray).toList = [239, 191, 189] from by decide +kernel]
    by_cases h2 : (s.extract 0 3).toList = [239, 191, 189]
    · simp [h2]
    · rw [decide_eq_false h2]; simpa using h2
  · rw [if_neg h]
    simp only [Option.bind_some, Option.some.injEq]
    refine (decide_eq_false fun h2 => ?_).symm
    have := congrArg List.length h2
    rw [ByteArray.toList_eq] at this
    simp at this
    omega

set_option maxHeartbeats 4000000 in
set_option maxRecDepth 100000 in
theorem first_empty (a0 : ByteArray) (w : World) (hL : Laid w) (h0 : a0.size = 0) :
    Calls Tryd.prog 59 #[.string a0] w fun e w' => e = .returned (.agg #[.int .i32 65533, .int .i64 1, .bool false]) ∧ Below w.heap.size w w' := by
  have hn := fun ty => ran_end w a0 ty h0
  go_enter Tryd.func59, Tryd.ntmps59
  go_wp2_with fail
  refine wp_loop_rounds 1 ?_
  rw [rounds_succ]
  rw [show (w.alloc (Obj.cells #[Value.int IntKind.i32 0, Value.int IntKind.i64 0, Value.bool false] 60)).iter a0 0 = Ran w a0 0 from rfl]
  have S := Aside0.mk (Stands.ran w a0 0)
  have L := hL.below (ran_below w a0 0)
  have L0 := L.out.1
  have L1 := L.out.2.1
  have L2 := L.out.2.2
  have r0 := S.out.c0
  have r1 := S.out.c1
  have r2 := S.out.c2
  have f0 := S.out.f 0
  have f1 := S.out.f 1
  have f2 := S.out.f 2
  go_wp2_with fail
  refine bodyPost_ret (results_cell_row rfl _ _ w.heap.size 60 #[.int .i32 65533, .int .i64 1, .bool false] (0, 0) _ rfl (by
    refine blk_put (cs := #[.int .i32 65533, .int .i64 1, .bool false]) ?_ 2 _ rfl
    refine blk_put (cs := #[.int .i32 65533, .int .i64 0, .bool false]) ?_ 1 _ rfl
    exact blk_put (cs := #[.int .i32 0, .int .i64 0, .bool false]) S.out.blk 0 _ rfl) Tryd.underlying60 rfl (by kernel_rfl)) rfl ⟨rfl, S.out.store _ _ _⟩

set_option maxHeartbeats 4000000 in
set_option maxRecDepth 100000 in
theorem first_bad (a0 : ByteArray) (w : World) (hL : Laid w) (h0 : 0 < a0.size) (hr : (Utf8.decode a0 0).1 = 65533) (hp : ¬ (a0.extract 0 3).toList = [239, 191, 189]) :
    Calls Tryd.prog 59 #[.string a0] w fun e w' => e = .returned (.agg #[.int .i32 65533, .int .i64 1, .bool false]) ∧ Below w.heap.size w w' := by
  have hn := fun ty => ran_next w a0 ty h0
  rw [hr] at hn
  have hP := Aside0.mk hp
  clear hr hp
  go_enter Tryd.func59, Tryd.ntmps59
  go_wp2_with fail
  refine wp_loop_rounds 1 ?_
  rw [rounds_succ]
  rw [show (w.alloc (Obj.cells #[Value.int IntKind.i32 0, Value.int IntKind.i64 0, Value.bool false] 60)).iter a0 0 = Ran w a0 0 from rfl]
  go_wp2_with fail
  have S0 := Aside0.mk (Stands.ran w a0 (Utf8.decode a0 0).2)
  clear hn
  generalize Ran w a0 (Utf8.decode a0 0).2 = W at S0 ⊢
  refine (strings_HasPrefix.calls a0 ⟨#[239, 191, 189]⟩ false _ (by rw [hasPrefix_f]; exact congrArg some (decide_eq_false hP.out))).mono ?_
  rintro e w' ⟨rfl, ⟨nd, rfl⟩⟩
  have S := Aside0.mk (S0.out.drewN nd)
  clear S0
  generalize W.drewN nd = W1 at S ⊢
  have L := hL.below S.out.below
  have L0 := L.out.1
  have L1 := L.out.2.1
  have L2 := L.out.2.2
  have r0 := S.out.c0
  have r1 := S.out.c1
  have r2 := S.out.c2
  have f0 := S.out.f 0
  have f1 := S.out.f 1
  have f2 := S.out.f 2
  go_wp2_with fail
  refine bodyPost_ret (results_cell_row rfl _ _ w.heap.size 60 #[.int .i32 65533, .int .i64 1, .bool false] (0, 0) _ rfl (by
    refine blk_put (cs := #[.int .i32 65533, .int .i64 1, .bool false]) ?_ 2 _ rfl
    refine blk_put (cs := #[.int .i32 65533, .int .i64 0, .bool false]) ?_ 1 _ rfl
    exact blk_put (cs := #[.int .i32 0, .int .i64 0, .bool false]) S.out.blk 0 _ rfl) Tryd.underlying60 rfl (by kernel_rfl)) rfl ⟨rfl, S.out.store _ _ _⟩

set_option maxHeartbeats 4000000 in
set_option maxRecDepth 100000 in
/-- U+FFFD itself -/
theorem first_fffd (a0 : ByteArray) (w : World) (h0 : 0 < a0.size) (hr : (Utf8.decode a0 0).1 = 65533) (hp : (a0.extract 0 3).toList = [239, 191, 189]) :
    Calls Tryd.prog 59 #[.string a0] w fun e w' => e = .returned (.agg #[.int .i32 65533, .int .i64 (Utf8.encode 65533).size, .bool true]) ∧ Below w.heap.size w w' := by
  have hn := fun ty => ran_next w a0 ty h0
  rw [hr] at hn
  have hP := Aside0.mk hp
  clear hr hp
  go_enter Tryd.func59, Tryd.ntmps59
  go_wp2_with fail
  refine wp_loop_rounds 1 ?_
  rw [rounds_succ]
  rw [show (w.alloc (Obj.cells #[Value.int IntKind.i32 0, Value.int IntKind.i64 0, Value.bool false] 60)).iter a0 0 = Ran w a0 0 from rfl]
  go_wp2_with fail
  have S0 := Aside0.mk (Stands.ran w a0 (Utf8.decode a0 0).2)
  clear hn
  generalize Ran w a0 (Utf8.decode a0 0).2 = W at S0 ⊢
  refine (strings_HasPrefix.calls a0 ⟨#[239, 191, 189]⟩ true _ (by rw [hasPrefix_f]; exact congrArg some (decide_eq_true hP.out))).mono ?_
  rintro e w' ⟨rfl, ⟨nd, rfl⟩⟩
  have S := Aside0.mk (S0.out.drewN nd)
  clear S0
  generalize W.drewN nd = W1 at S ⊢
  have r0 := S.out.c0
  have r1 := S.out.c1
  have r2 := S.out.c2
  have f0 := S.out.f 0
  have f1 := S.out.f 1
  have f2 := S.out.f 2
  obtain ⟨z, hz⟩ : ∃ z : Nat, z = (Utf8.encode 65533).size := ⟨_, rfl⟩
  go_wp2_with fail
  refine bodyPost_ret (results_cell_row rfl _ _ w.heap.size 60 #[.int .i32 65533, .int .i64 (Utf8.encode 65533).size, .bool true] (0, 0) _ rfl (by
    refine blk_put (cs := #[.int .i32 65533, .int .i64 (Utf8.encode 65533).size, .bool false]) ?_ 2 _ rfl
    refine blk_put (cs := #[.int .i32 65533, .int .i64 0, .bool false]) ?_ 1 _ rfl
    exact blk_put (cs := #[.int .i32 0, .int .i64 0, .bool false]) S.out.blk 0 _ rfl) Tryd.underlying60 rfl (by kernel_rfl)) rfl ⟨rfl, S.out.store _ _ _⟩

set_option maxHeartbeats 4000000 in
set_option maxRecDepth 100000 in
theorem first_rune (a0 : ByteArray) (w : World) (h0 : 0 < a0.size) (hr : ¬ (Utf8.decode a0 0).1 = 65533) :
    Calls Tryd.prog 59 #[.string a0] w fun e w' => e = .returned (.agg #[.int .i32 (Utf8.decode a0 0).1, .int .i64 (Utf8.encode (Utf8.decode a0 0).1).size, .bool true]) ∧ Below w.heap.size w w' := by
  have hn := fun ty => ran_next w a0 ty h0
  obtain ⟨r, er⟩ : ∃ r : Int, r = ((Utf8.decode a0 0).1 : Int) := ⟨_, rfl⟩
  have hr' : (r == 65533) = false := beq_eq_false_iff_ne.2 (by omega)
  rw [← er] at hn ⊢
  clear hr er
  go_enter Tryd.func59, Tryd.ntmps59
  go_wp2_with fail
  refine wp_loop_rounds 1 ?_
  rw [rounds_succ]
  rw [show (w.alloc (Obj.cells #[Value.int IntKind.i32 0, Value.int IntKind.i64 0, Value.bool false] 60)).iter a0 0 = Ran w a0 0 from rfl]
  have S := Aside0.mk (Stands.ran w a0 (Utf8.decode a0 0).2)
  have r0 := S.out.c0
  have r1 := S.out.c1
  have r2 := S.out.c2
  have f0 := S.out.f 0
  have f1 := S.out.f 1
  have f2 := S.out.f 2
  go_wp2_with fail
  refine bodyPost_ret (results_cell_row rfl _ _ w.heap.size 60 #[.int .i32 r, .int .i64 (Utf8.encode r).size, .bool true] (0, 0) _ rfl (by
    refine blk_put (cs := #[.int .i32 r, .int .i64 (Utf8.encode r).size, .bool false]) ?_ 2 _ rfl
    refine blk_put (cs := #[.int .i32 r, .int .i64 0, .bool false]) ?_ 1 _ rfl
    exact blk_put (cs := #[.int .i32 0, .int .i64 0, .bool false]) S.out.blk 0 _ rfl) Tryd.underlying60 rfl (by kernel_rfl)) rfl ⟨rfl, S.out.store _ _ _⟩

theorem first_calls (s : ByteArray) (w : World) (hL : Laid w) : Calls Tryd.prog 59 #[.string s] w fun e w' => e = .returned (.agg #[.int .i32 (firstV s).1, .int .i64 (firstV s).2.1, .bool (firstV s).2.2]) ∧ Below w.heap.size w w' := by
  unfold firstV
  by_cases h0 : s.size = 0
  · rw [if_pos h0]; exact first_empty s w hL h0
  · rw [if_neg h0]
    by_cases h1 : (Utf8.decode s 0).1 = 65533
    · by_cases h2 : (s.extract 0 3).toList = [239, 191, 189]
      · rw [if_neg (fun h => h.2 h2)]
        have := first_fffd s w (by omega) h1 h2
        rw [h1]; exact this
      · rw [if_pos ⟨h1, h2⟩]; exact first_bad s w hL (by omega) h1 h2
    · rw [if_neg (fun h => h1 h.1)]; exact first_rune s w (by omega) h1

theorem step_first.calls (a0 : ByteArray) (r1 : Int) (r2 : Int) (r3 : Bool) (w : World) (h : step_first.f a0 = some (r1, r2, r3)) (hLaid : Laid w := by repeat (first | exact hLaid | exact hLaid.below (by assumption) | exact hLaid.below (Aside0.out (by assumption)) | refine Laid.drewN ?_ _ | refine Laid.drew ?_ | refine Laid.alloc ?_ _ | refine Laid.set hLaid (Aside0.out (by assumption)) ?_)) :
    Calls Tryd.prog 59 #[.string a0] w fun e w' => e = .returned (.agg #[.int .i32 r1, .int .i64 r2, .bool r3]) ∧ Below w.heap.size w w' := by
  have h := Option.some.inj h
  have := first_calls a0 w hLaid
  rw [h] at this
  exact this

/-- the cut l[p:hi], its address under a name of its own -/
def cutA (A0 : Option Addr) (c0 p : Nat) : Option Addr := if c0 = p then A0 else Option.map (fun x => x.add p) A0
theorem cut_run (A0 : Option Addr) (c0 n p hi : Nat) (z : Int) (hz : z = hi) (h1 : p ≤ hi) (h2 : hi ≤ n) (hc : n ≤ c0) : ∀ W : World,
    (Instr.slice 22 (.slice A0 n c0) (some (.int .i64 (p : Int))) (some (.int .i64 z)) none).run Tryd.prog W = .ok (.slice (cutA A0 c0 p) (hi - p) (c0 - p)) W := by
  intro W
  obtain ⟨i, hi0, hz0, hz1, hz2⟩ := info_parts info5
  have := cut_mid (P := Tryd.prog) 22 5 .i64 .i64 Tryd.underlying22 hi0 1 hz1 A0 n c0 p z (by omega) (by omega) (by omega) hc W
  rw [this]
  unfold cutA
  rw [show ((p : Int)).toNat = p by omega, show z.toNat = hi by omega, Nat.mul_one]
/-- string(l[p:hi]) -/
theorem cut_conv {A0 : Option Addr} {c0 : Nat} {l0 : List Int} {p hi : Nat} {W : World} (h : Kd.C (Kd.int .u8) W A0 l0.length l0) (hc0 : l0.length ≤ c0) (h1 : p ≤ hi) (h2 : hi ≤ l0.length) (c : Nat) :
    (convert 22 9 (.slice (cutA A0 c0 p) (hi - p) c)).run Tryd.prog W = .ok (.string (strOfNums ((l0.take hi).drop p))) W := by
  have hm := Kd.C_mid h h1 h2 hc0
  rw [show p * (Kd.int .u8).sz = p from Nat.mul_one p] at hm
  have hl : ((l0.take hi).drop p).length = hi - p := by simp; omega
  rw [hl] at hm
  exact Kd.C_string Tryd.underlying22 Tryd.underlying5 Tryd.underlying9 hm
theorem take_cut (l : List Int) (p hi : Nat) (h : hi = p + 4 ∨ (hi = l.length ∧ l.length ≤ p + 4)) : (l.take hi).drop p = (l.take (p + 4)).drop p := by
  rcases h with rfl | ⟨rfl, h⟩
  · rfl
  · rw [List.take_of_length_le (Nat.le_refl _), List.take_of_length_le h]

set_option maxHeartbeats 4000000 in
set_option maxRecDepth 100000 in
theorem at_walk (A0 : Option Addr) (c0 : Nat) (l0 : List Int) (p hi : Nat) (z : Int) (w : World) (hr0 : Kd.C (Kd.int .u8) w A0 l0.length l0) (hc0 : l0.length ≤ c0) (hp : p ≤ l0.length) (hm : l0.length ≤ 140737488355328)
    (hz : z = hi) (hmin : min ((p : Int) + 4) l0.length = z) (hh : hi = p + 4 ∨ (hi = l0.length ∧ l0.length ≤ p + 4)) (hL : Laid w) :
    Calls Tryd.prog 47 #[.slice A0 l0.length c0, .int .i64 p] w fun e w' => e = .returned (.agg #[.int .i32 (atS l0 p).1, .int .i64 (atS l0 p).2.1, .bool (atS l0 p).2.2]) ∧ Below w.heap.size w w' := by
  have h1 : p ≤ hi := by omega
  have h2 : hi ≤ l0.length := by omega
  have hs := cut_run A0 c0 l0.length p hi z hz h1 h2 hc0
  obtain ⟨W, hW⟩ : ∃ W, W = w.alloc (Obj.cells #[Value.int IntKind.i32 0, Value.int IntKind.i64 0, Value.bool false] 60) := ⟨_, rfl⟩
  have hB : Below w.heap.size w W := by rw [hW]; exact (Below.refl _ _).alloc (Nat.le_refl _) _
  have S := Aside0.mk (Stands.mk hB (by rw [hW]; exact heap_alloc_new w _))
  have LW := Aside0.mk (hL.below hB)
  have hcv := cut_conv (Kd.C_below hr0 hB) hc0 h1 h2 (c0 - p)
  rw [take_cut l0 p hi hh] at hcv
  have hfirst := Aside0.mk (first_calls (strOfNums ((l0.take (p + 4)).drop p)) W LW.out)
  rw [show firstV (strOfNums ((l0.take (p + 4)).drop p)) = atS l0 p from rfl] at hfirst
  generalize strOfNums ((l0.take (p + 4)).drop p) = s at hcv hfirst
  generalize atS l0 p = x at hfirst ⊢
  have X := Aside0.mk hh
  have hmz : (z : Int) ≤ (l0.length : Int) := by omega
  have hmin' : (if (l0.length : Int) < (p : Int) + 4 then (l0.length : Int) else (p : Int) + 4) = z := by rw [← hmin]; split <;> omega
  clear hr0 hL hh hz hB h1 h2 hmin
  subst hW
  go_enter Tryd.func47, Tryd.ntmps47
  go_wp2_with fail
  clear hcv hs hmin'
  generalize w.alloc (Obj.cells #[Value.int IntKind.i32 0, Value.int IntKind.i64 0, Value.bool false] 60) = W at S LW hfirst ⊢
  refine hfirst.out.mono ?_
  rintro e W2 ⟨rfl, hb⟩
  have S2 := Aside0.mk (Stands.mk (below_then S.out.below S.out.below.size hb) ((hb.block _ (Array.getElem?_eq_some_iff.1 S.out.blk).1).trans S.out.blk))
  have r0 := S2.out.c0
  have r1 := S2.out.c1
  have r2 := S2.out.c2
  have f0 := S2.out.f 0
  have f1 := S2.out.f 1
  have f2 := S2.out.f 2
  clear hb S LW hfirst
  obtain ⟨x1, x2, x3⟩ := x
  go_wp2_with fail
  refine bodyPost_ret (results_cell_row rfl _ _ w.heap.size 60 #[.int .i32 x1, .int .i64 x2, .bool x3] (0, 0) _ rfl (by
    refine blk_put (cs := #[.int .i32 x1, .int .i64 x2, .bool false]) ?_ 2 _ rfl
    refine blk_put (cs := #[.int .i32 x1, .int .i64 0, .bool false]) ?_ 1 _ rfl
    exact blk_put (cs := #[.int .i32 0, .int .i64 0, .bool false]) S2.out.blk 0 _ rfl) Tryd.underlying60 rfl (by kernel_rfl)) rfl ⟨rfl, S2.out.store _ _ _⟩

theorem at_calls (A0 : Option Addr) (c0 : Nat) (l0 : List Int) (p : Nat) (w : World) (hr0 : Kd.C (Kd.int .u8) w A0 l0.length l0) (hc0 : l0.length ≤ c0) (hp : p ≤ l0.length) (hm : l0.length ≤ 140737488355328) (hL : Laid w) :
    Calls Tryd.prog 47 #[.slice A0 l0.length c0, .int .i64 p] w fun e w' => e = .returned (.agg #[.int .i32 (atS l0 p).1, .int .i64 (atS l0 p).2.1, .bool (atS l0 p).2.2]) ∧ Below w.heap.size w w' := by
  by_cases h : p + 4 ≤ l0.length
  · exact at_walk A0 c0 l0 p (p + 4) ((p + 4 : Nat) : Int) w hr0 hc0 hp hm rfl (by omega) (Or.inl rfl) hL
  · exact at_walk A0 c0 l0 p l0.length (l0.length : Int) w hr0 hc0 hp hm rfl (by omega) (Or.inr ⟨rfl, by omega⟩) hL

theorem step_at.calls (A0 : Option Addr) (c0 : Nat) (l0 : List Int) (a1 : Int) (r1 : Int) (r2 : Int) (r3 : Bool) (w : World) (hr0 : Kd.C (Kd.int .u8) w A0 l0.length l0) (hc0 : l0.length ≤ c0) (h : step_at.f l0 a1 = some (r1, r2, r3)) (hLaid : Laid w := by repeat (first | exact hLaid | exact hLaid.below (by assumption) | exact hLaid.below (Aside0.out (by assumption)) | refine Laid.drewN ?_ _ | refine Laid.drew ?_ | refine Laid.alloc ?_ _ | refine Laid.set hLaid (Aside0.out (by assumption)) ?_)) :
    Calls Tryd.prog 47 #[.slice A0 l0.length c0, .int .i64 a1] w fun e w' => e = .returned (.agg #[.int .i32 r1, .int .i64 r2, .bool r3]) ∧ Below w.heap.size w w' := by
  unfold step_at.f at h
  by_cases c : 0 ≤ a1 ∧ a1 ≤ l0.length ∧ l0.length ≤ 140737488355328
  · rw [if_pos c] at h
    have h := Option.some.inj h
    have := at_calls A0 c0 l0 a1.toNat w hr0 hc0 (by omega) c.2.2 hLaid
    rw [h, Int.toNat_of_nonneg c.1] at this
    exact this
  · rw [if_neg c] at h; cases h

/-! ### inside -/
/-- a round's field of a struct: its width -/
theorem width_of (a : Int) (b : Int) (c : Bool) : ∀ W : World, (Instr.field 60 (.agg #[.int .i32 a, .int .i64 b, .bool c]) 1).run Tryd.prog W = .ok (.int .i64 b) W := fun W => by kernel_rfl
/-- no encoding begins less than k ahead of p and goes over it -/
def NoneAhead (l : List Int) (p k : Nat) : Prop := ∀ j : Nat, 1 ≤ j → j < k → j ≤ p ∧ ¬ ((j : Int) < (atS l (p - j)).2.1)
theorem inside_at (l : List Int) (p k : Nat) (h1 : 1 ≤ k) (h3 : k ≤ 3) (hk : k ≤ p) (hP : NoneAhead l p k) (hw : (k : Int) < (atS l (p - k)).2.1) : insideV l p = k := by
  unfold insideV
  rcases (by omega : k = 1 ∨ k = 2 ∨ k = 3) with rfl | rfl | rfl
  · rw [if_pos ⟨hk, hw⟩]
  · rw [if_neg (fun h => (hP 1 (by omega) (by omega)).2 h.2), if_pos ⟨hk, hw⟩]
  · rw [if_neg (fun h => (hP 1 (by omega) (by omega)).2 h.2), if_neg (fun h => (hP 2 (by omega) (by omega)).2 h.2), if_pos ⟨hk, hw⟩]
theorem inside_none (l : List Int) (p k : Nat) (hP : NoneAhead l p k) (hk : k = 4 ∨ p < k) : insideV l p = 0 := by
  have no : ∀ j, 1 ≤ j → j ≤ 3 → ¬ (j ≤ p ∧ (j : Int) < (atS l (p - j)).2.1) := fun j g1 g2 h => by
    by_cases hj : j < k
    · exact (hP j g1 hj).2 h.2
    · omega
  unfold insideV
  rw [if_neg (by simpa using no 1 (by omega) (by omega)), if_neg (by simpa using no 2 (by omega) (by omega)), if_neg (by simpa using no 3 (by omega) (by omega))]
set_option maxHeartbeats 8000000 in
set_option maxRecDepth 100000 in
theorem inside_walk (A0 : Option Addr) (c0 : Nat) (l0 : List Int) (p : Nat) (w : World) (hr0 : Kd.C (Kd.int .u8) w A0 l0.length l0) (hc0 : l0.length ≤ c0) (hp : p ≤ l0.length) (hm : l0.length ≤ 140737488355328) (hL : Laid w) :
    Calls Tryd.prog 46 #[.slice A0 l0.length c0, .int .i64 p] w fun e w' => e = .returned (.int .i64 (insideV l0 p)) ∧ Below w.heap.size w w' := by
  have HR := Aside0.mk hr0
  have HL := Aside0.mk hL
  clear hr0 hL
  go_enter Tryd.func46, Tryd.ntmps46
  go_wp2_with fail
  go_loopg [5] 4 (fun g v W => ∃ k : Nat, v = .int .i64 k ∧ 1 ≤ k ∧ k ≤ 4 ∧ 4 - k ≤ g ∧ Aside0 (Below w.heap.size w W) ∧ Aside0 (NoneAhead l0 p k))
  case atStart => exact ⟨1, rfl, by omega, by omega, by omega, ⟨Below.refl _ _⟩, ⟨fun j h1 h2 => by omega⟩⟩
  case round =>
    obtain ⟨k, rfl, hk1, hk4, hg, HB, HP⟩ := hrel
    by_cases h3 : k ≤ 3
    · by_cases hkp : k ≤ p
      · have e1 : decide ((k : Int) ≤ 3) = true := decide_eq_true (by omega)
        have e2 : decide ((k : Int) ≤ (p : Int)) = true := decide_eq_true (by omega)
        have e3 : IntKind.i64.wrap ((p : Int) - (k : Int)) = ((p - k : Nat) : Int) := by rw [IntKind.wrap_i64]; omega
        have z3 : (p : Int) - (k : Int) = ((p - k : Nat) : Int) := by omega
        have hc := Aside0.mk (at_calls A0 c0 l0 (p - k) wr (Kd.C_below HR.out HB.out) hc0 (by omega) hm (HL.out.below HB.out))
        generalize hx : atS l0 (p - k) = x at hc
        have HX := Aside0.mk hx
        clear hx
        obtain ⟨x1, x2, x3⟩ := x
        obtain ⟨q, hq⟩ : ∃ q, q = p - k := ⟨_, rfl⟩
        rw [← hq] at e3 z3 hc
        have HQ := Aside0.mk hq
        clear hq
        have hwd := width_of x1 x2 x3
        go_wp2_with fail
        refine hc.out.mono ?_
        rintro e W2 ⟨rfl, hb⟩
        have HB2 := Aside0.mk (below_then HB.out HB.out.size hb)
        clear hb hc HB
        by_cases hw : (k : Int) < x2
        · have e4 : decide ((k : Int) < x2) = true := decide_eq_true hw
          go_wp2_with fail
          go_ret
          refine ⟨?_, HB2.out⟩
          have ei := inside_at l0 p k hk1 h3 hkp HP.out (by rw [HX.out]; exact hw)
          simp [ei]
        · have e4 : decide ((k : Int) < x2) = false := decide_eq_false hw
          go_wp2_with fail
          go_roundg (4 - (k + 1))
          case measure => omega
          case rel =>
            refine ⟨k + 1, by go_num, by omega, by omega, by omega, HB2, ⟨fun j h1 h2 => ?_⟩⟩
            by_cases hj : j < k
            · exact HP.out j h1 hj
            · obtain rfl : j = k := by omega
              exact ⟨hkp, by rw [HX.out]; exact Int.not_lt.2 hw⟩
      · have e1 : decide ((k : Int) ≤ 3) = true := decide_eq_true (by omega)
        have e2 : decide ((k : Int) ≤ (p : Int)) = false := decide_eq_false (by omega)
        go_wp2_with fail
        go_ret
        refine ⟨?_, HB.out⟩
        rw [inside_none l0 p k HP.out (Or.inr (by omega))]; rfl
    · have e1 : decide ((k : Int) ≤ 3) = false := decide_eq_false (by omega)
      go_wp2_with fail
      go_ret
      refine ⟨?_, HB.out⟩
      rw [inside_none l0 p k HP.out (Or.inl (by omega))]; rfl

theorem step_inside.calls (A0 : Option Addr) (c0 : Nat) (l0 : List Int) (a1 : Int) (r : Int) (w : World) (hr0 : Kd.C (Kd.int .u8) w A0 l0.length l0) (hc0 : l0.length ≤ c0) (h : step_inside.f l0 a1 = some r) (hLaid : Laid w := by repeat (first | exact hLaid | exact hLaid.below (by assumption) | exact hLaid.below (Aside0.out (by assumption)) | refine Laid.drewN ?_ _ | refine Laid.drew ?_ | refine Laid.alloc ?_ _ | refine Laid.set hLaid (Aside0.out (by assumption)) ?_)) :
    Calls Tryd.prog 46 #[.slice A0 l0.length c0, .int .i64 a1] w fun e w' => e = .returned (.int .i64 r) ∧ Below w.heap.size w w' := by
  unfold step_inside.f at h
  by_cases c : 0 ≤ a1 ∧ a1 ≤ l0.length ∧ l0.length ≤ 140737488355328
  · rw [if_pos c] at h
    have h := Option.some.inj h
    have := inside_walk A0 c0 l0 a1.toNat w hr0 hc0 (by omega) c.2.2 hLaid
    rw [h, Int.toNat_of_nonneg c.1] at this
    exact this
  · rw [if_neg c] at h; cases h
end Go.Proofs.YtdomggegacgmnaaDoor.PA
