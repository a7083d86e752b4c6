/- The sort's world at a row of structs (k cells each, k a variable): turned while all else stays; swapRange, rotate and insertionSort of slices.SortStableFunc over any program that holds these bodies; 'cmp' a function that lays and draws what it wants. -/
import Derived.Test.YtjladdjpnicldaaGBehind
import Derived.Test.YtjladdjpnicldaaStable
import Derived.Lib.QuietBelow
import Derived.BigRegion
import Derived.BigQuiet
import Derived.Deep.QuietTactic
import Derived.Shelf.SlSortCmp.InsertionK
namespace Go.Proofs.Ytjladdjpnicldaa.PA
open Go.Sort Go.RowKit Go.Shelf Go.Lib Go.Proofs.YtjladdjpnicldaaW.PrintWords Go.Proofs.YtjladdjpnicldaaW.PrintLast Go.Proofs.YtjladdjpnicldaaW.PrintMore
/-- a program that holds these bodies; nothing is said of the element's type -/
structure SymL (P : Program) : Prop where
  mixed : P.follows .mixedOrders = true
  f32 : P.funcs[32]? = some Try.f32
  f51 : P.funcs[51]? = some Try.f51
  f66 : P.funcs[66]? = some Try.f66
  f67 : P.funcs[67]? = some Try.f67
  f81 : P.funcs[81]? = some Try.f81
  f88 : P.funcs[88]? = some Try.f88
  t0 : P.underlying 0 = some (TypeDesc.tuple #[])
  a0 : ∀ w, (isAgg 0).run P w = .ok false w
  z0 : ∀ w, (Go.sizeOf 0).run P w = .ok 1 w
  v0 : ∀ w, (zeroValue 0).run P w = .ok (Value.tuple #[]) w
  t3 : P.underlying 3 = some (TypeDesc.int IntKind.i64)
  a3 : ∀ w, (isAgg 3).run P w = .ok false w
  z3 : ∀ w, (Go.sizeOf 3).run P w = .ok 1 w
  v3 : ∀ w, (zeroValue 3).run P w = .ok (Value.int IntKind.i64 0) w
  t4 : P.underlying 4 = some (TypeDesc.bool)
  a4 : ∀ w, (isAgg 4).run P w = .ok false w
  z4 : ∀ w, (Go.sizeOf 4).run P w = .ok 1 w
  v4 : ∀ w, (zeroValue 4).run P w = .ok (Value.bool false) w
  t40 : P.underlying 40 = some (TypeDesc.slice 24)
  a40 : ∀ w, (isAgg 40).run P w = .ok false w
  z40 : ∀ w, (Go.sizeOf 40).run P w = .ok 1 w
  v40 : ∀ w, (zeroValue 40).run P w = .ok (Value.slice none 0 0) w
  t85 : P.underlying 85 = some (TypeDesc.func #[24, 24] #[3] false)
  a85 : ∀ w, (isAgg 85).run P w = .ok false w
  z85 : ∀ w, (Go.sizeOf 85).run P w = .ok 1 w
  v85 : ∀ w, (zeroValue 85).run P w = .ok (Value.nilFunc) w
  t121 : P.underlying 121 = some (TypeDesc.int IntKind.u64)
  a121 : ∀ w, (isAgg 121).run P w = .ok false w
  z121 : ∀ w, (Go.sizeOf 121).run P w = .ok 1 w
  v121 : ∀ w, (zeroValue 121).run P w = .ok (Value.int IntKind.u64 0) w
  a24 : ∀ w, (isAgg 24).run P w = .ok true w
theorem symL : SymL Try.prog := ⟨by kernel_rfl, Try.func32, Try.func51, Try.func66, Try.func67, Try.func81, Try.func88,
  Try.underlying0, Try.isAgg0, Try.sizeOf0, Try.zeroValue0, Try.underlying3, Try.isAgg3, Try.sizeOf3, Try.zeroValue3, Try.underlying4, Try.isAgg4, Try.sizeOf4, Try.zeroValue4,
  Try.underlying40, Try.isAgg40, Try.sizeOf40, Try.zeroValue40, Try.underlying85, Try.isAgg85, Try.sizeOf85, Try.zeroValue85, Try.underlying121, Try.isAgg121, Try.sizeOf121, Try.zeroValue121, Try.isAgg24⟩

/-- how an element lies: k cells, each one cell wide -/
structure EncK {α : Type} (enc : α → List Value) (k : Nat) : Prop where
  len : ∀ x, (enc x).length = k
  one : ∀ x, ∀ v ∈ enc x, v.oneCell' = true

variable {P : Program} {α : Type} {enc : α → List Value} {k : Nat} {w0 W : World} {g : Nat} {rest : List Value} {d : Array α}

/-- a world of the sort: the block g holds the row (and what is behind it), all else is as it was -/
structure SB [Inhabited α] (enc : α → List Value) (k : Nat) (w0 : World) (g : Nat) (rest : List Value) (d : Array α) (W : World) : Prop where
  kept : w0.grownBy W (some g)
  row : W.heap[g]? = some (.cells (flatK enc k d ++ rest.toArray) 24 (0, 0))
variable [Inhabited α]
theorem SB.below (h : SB enc k w0 g rest d W) {W' : World} (hb : Below W.heap.size W W') : SB enc k w0 g rest d W' :=
  ⟨⟨hb.os.trans h.kept.os, hb.tape.trans h.kept.tape, hb.output.trans h.kept.output, Nat.le_trans h.kept.size hb.size, fun k hk hne => (hb.block k (Nat.lt_of_lt_of_le hk h.kept.size)).trans (h.kept.block k hk hne)⟩, (hb.block g (blk_lt h.row)).trans h.row⟩
theorem SB.drew (h : SB enc k w0 g rest d W) : SB enc k w0 g rest d W.drew := h.below ((Below.refl _ _).drew)
theorem SB.holds (h : SB enc k w0 g rest d W) : HoldsK enc k W g 0 d := fun j hj => by
  refine ⟨?_, blk_frozen h.row _⟩
  rw [Nat.zero_add, blk_cell h.row, Array.getElem?_append_left hj, Array.getElem?_eq_getElem hj, id, getElem!_pos _ j hj]
theorem SB.load (h : SB enc k w0 g rest d W) (E : EncK enc k) (P : Program) (i : Nat) (hi : i < d.size) :
    Sem.run P (loadCellsFrom ⟨g, i * k, none⟩ 0 k #[]) W = .ok (enc d[i]!).toArray W := by
  have := run_loadCellsFrom_list P W ⟨g, 0 + i * k, none⟩ _ k (E.len _) (HoldsK.cells h.holds E.len hi)
  rwa [Nat.zero_add] at this
theorem SB.ld (h : SB enc k w0 g rest d W) (E : EncK enc k) (P : Program) (i : Nat) (hi : i < d.size) (n : Nat) (os : Array Obj) :
    Sem.run P (loadCellsFrom ⟨g, i * k, none⟩ 0 k #[]) (grow (redrawn W n) os) = .ok (enc d[i]!).toArray (grow (redrawn W n) os) := (h.below (below_regrown W n os)).load E P i hi
omit [Inhabited α] in
theorem bndK (d : Array α) (k x : Nat) (hx : x < d.size) : x * k + k ≤ d.size * k := by
  have := Nat.mul_le_mul_right k (show x + 1 ≤ d.size from hx); rwa [Nat.add_mul, Nat.one_mul] at this
theorem SB.st1 (h : SB enc k w0 g rest d W) (E : EncK enc k) (P : Program) (i : Nat) (hi : i < d.size) (y : α) :
    Sem.run P (storeCells ⟨g, i * k, none⟩ (enc y) 0) W = .ok () (W.setCells g (i * k) (enc y)) := by
  have := stores_of_holds P h.holds (i * k) (enc y) (by rw [E.len, size_flatK]; exact bndK d k i hi) (E.one _)
  rwa [Nat.zero_add] at this
theorem SB.st2 (h : SB enc k w0 g rest d W) (E : EncK enc k) (P : Program) (i j : Nat) (hi : i < d.size) (hj : j < d.size) (y x : α) :
    Sem.run P (storeCells ⟨g, j * k, none⟩ (enc x) 0) (W.setCells g (i * k) (enc y)) = .ok () ((W.setCells g (i * k) (enc y)).setCells g (j * k) (enc x)) := by
  have h2 := holds_setCells_c h.holds (i * k) (enc y) (by rw [E.len, size_flatK]; exact bndK d k i hi)
  have := stores_of_holds P h2 (j * k) (enc x) (by rw [E.len, size_setMany, size_flatK]; exact bndK d k j hj) (E.one _)
  rwa [Nat.zero_add, Nat.zero_add] at this
theorem set_row {r : Array Value} {t : TypeId} : ∀ (vs : List Value) (s : Nat) (F : Array Value) (W : World), W.heap[g]? = some (.cells (F ++ r) t (0, 0)) → s + vs.length ≤ F.size →
    (W.setCells g s vs).heap[g]? = some (.cells (setMany F s vs ++ r) t (0, 0))
  | [], _, _, _, h, _ => h
  | v :: vs, s, F, W, h, hs => by
    have hs' : s + 1 + vs.length ≤ F.size := by simp at hs; omega
    have h1 := blk_set h s v
    rw [Array.setIfInBounds_append_left (by omega)] at h1
    exact set_row vs (s + 1) _ _ h1 (by simpa using hs')
theorem set_kept {W0 : World} : ∀ (vs : List Value) (s : Nat) (W : World), W0.grownBy W (some g) → W0.grownBy (W.setCells g s vs) (some g)
  | [], _, _, h => h
  | v :: vs, s, W, h => set_kept vs (s + 1) _ ⟨h.os, h.tape, h.output, by rw [World.size_setCell]; exact h.size, fun k hk hne => by
      have hkg : k ≠ g := fun e => hne (by rw [e])
      rw [Below.heap_setCell _ ⟨g, s, none⟩ _ k hkg]; exact h.block k hk hne⟩
theorem SB.swap (h : SB enc k w0 g rest d W) (E : EncK enc k) (i j : Nat) (hi : i < d.size) (hj : j < d.size) :
    SB enc k w0 g rest (swp d i j) ((W.setCells g (i * k) (enc d[j]!)).setCells g (j * k) (enc d[i]!)) := by
  have bi : i * k + (enc d[j]!).length ≤ (flatK enc k d).size := by rw [E.len, size_flatK]; exact bndK d k i hi
  have bj : j * k + (enc d[i]!).length ≤ (setMany (flatK enc k d) (i * k) (enc d[j]!)).size := by rw [E.len, size_setMany, size_flatK]; exact bndK d k j hj
  refine ⟨set_kept _ _ _ (set_kept _ _ _ h.kept), ?_⟩
  rw [← setMany_swp enc k E.len d i j hi hj]
  exact set_row _ _ _ _ (set_row _ _ _ _ h.row bi) bj
/-- what 'cmp' is asked: in every world of the sort it hands back cf x y; what was there stays -/
def CmpB (P : Program) (c : Nat) (enc : α → List Value) (k : Nat) (cf : α → α → Int) (w0 : World) (g : Nat) (rest : List Value) (n : Nat) : Prop :=
  ∀ (d : Array α) (W : World), d.size = n → SB enc k w0 g rest d W → ∀ x y : α, Calls P c #[.agg (enc x).toArray, .agg (enc y).toArray] W fun e w' => e = .returned (.int .i64 (cf x y)) ∧ Below W.heap.size W w'
theorem CmpB.at {P : Program} {c : Nat} {cf : α → α → Int} {n : Nat} (h : CmpB P c enc k cf w0 g rest n) (hs : d.size = n) (S : SB enc k w0 g rest d W) (x y : α) (q : Nat) (os : Array Obj) :
    Calls P c #[.agg (enc x).toArray, .agg (enc y).toArray] (grow (redrawn W q) os) fun e w'' => e = .returned (.int .i64 (cf x y)) ∧ ∃ p : Regrown, w'' = grow (redrawn W p.d) p.os :=
  Calls.regrown_of (h d _ hs (S.below (below_regrown W q os)) x y)
def ltOf (cf : α → α → Int) (x y : α) : Bool := decide (cf x y < 0)

set_option maxHeartbeats 8000000 in
set_option maxRecDepth 100000 in
theorem swapRange_walk (L : SymL P) (zE : ∀ w, (Go.sizeOf 24).run P w = .ok k w) (E : EncK enc k) (cap a b n : Nat) (cv : Value) (d : Array α) (W : World) (S : SB enc k w0 g rest d W) (hab : a + n ≤ d.size) (hb : b + n ≤ d.size) (hsz : d.size < 4611686018427387904) :
    Calls P 88 #[.slice (some ⟨g, 0, none⟩) d.size cap, .int .i64 a, .int .i64 b, .int .i64 n, cv] W fun e w' => e = .returned (.tuple #[]) ∧ SB enc k w0 g rest (swapR d a b n) w' := by
  have mixed := L.mixed; have t0 := L.t0; have a0 := L.a0; have z0 := L.z0; have v0 := L.v0; have t3 := L.t3; have a3 := L.a3; have z3 := L.z3; have v3 := L.v3; have t4 := L.t4; have a4 := L.a4; have z4 := L.z4; have v4 := L.v4; have t40 := L.t40; have a40 := L.a40; have z40 := L.z40; have v40 := L.v40; have t85 := L.t85; have a85 := L.a85; have z85 := L.z85; have v85 := L.v85
  have u40 := run_underlying L.t40
  have aE := L.a24
  have F := L.f88
  clear L
  have S0 := Aside0.mk S
  have E := Aside0.mk E
  clear S
  go_enter F, Try.ntmps88
  go_wp2_with fail
  go_loopg [10] n (fun m v wr => ∃ (i : Nat), v = .int .i64 i ∧ i ≤ n ∧ n - i ≤ m ∧ Aside0 (SB enc k w0 g rest (swapR d a b i) wr))
  case atStart => exact ⟨0, rfl, by omega, by omega, S0⟩
  case round =>
    clear S0
    obtain ⟨i, rfl, hi, hm, S1⟩ := hrel
    by_cases h : i < n
    · have e1 : decide ((i : Int) < (n : Int)) = true := decide_eq_true (by omega)
      obtain ⟨dk, hdk⟩ : ∃ dk, dk = swapR d a b i := ⟨_, rfl⟩
      have hsk : dk.size = d.size := by rw [hdk, size_swapR]
      have HD := Aside0.mk (show swapR d a b (i + 1) = swp dk (a + i) (b + i) by rw [swapR, hdk])
      rw [← hdk] at S1
      clear hdk
      obtain ⟨p, hp⟩ : ∃ p, p = a + i := ⟨_, rfl⟩
      obtain ⟨q, hq⟩ : ∃ q, q = b + i := ⟨_, rfl⟩
      have ep : IntKind.i64.wrap ((a : Int) + (i : Int)) = (p : Int) := by rw [IntKind.wrap_i64]; omega
      have eq : IntKind.i64.wrap ((b : Int) + (i : Int)) = (q : Int) := by rw [IntKind.wrap_i64]; omega
      have zp : (a : Int) + (i : Int) = (p : Int) := by omega
      have zq : (b : Int) + (i : Int) = (q : Int) := by omega
      have bp : (p : Int) < (d.size : Int) := by omega
      have bq : (q : Int) < (d.size : Int) := by omega
      have SW := Aside0.mk (S1.out.drew.swap E.out p q (by omega) (by omega))
      have lp := S1.out.drew.load E.out P p (by omega)
      have lq := S1.out.drew.load E.out P q (by omega)
      have s1 := S1.out.drew.st1 E.out P p (by omega) dk[q]!
      have s2 := S1.out.drew.st2 E.out P p q (by omega) (by omega) dk[q]! dk[p]!
      have hsP := E.out.len dk[p]!
      have hsQ := E.out.len dk[q]!
      rw [← hp, ← hq] at HD
      generalize enc dk[p]! = x at *
      generalize enc dk[q]! = y at *
      clear S1 hp hq
      go_wp2_with fail
      go_big_region_o
      clear lp lq s1 s2
      generalize ((wr.drew.setCells g (p * k) y).setCells g (q * k) x) = W2 at SW ⊢
      go_wp2_with fail
      go_roundg (n - (i + 1))
      case measure => omega
      case rel => exact ⟨i + 1, by go_num, by omega, by omega, ⟨by rw [HD.out]; exact SW.out⟩⟩
    · have e1 : decide ((i : Int) < (n : Int)) = false := decide_eq_false (by omega)
      obtain rfl : i = n := by omega
      go_wp2_with fail
      go_end0
      exact ⟨rfl, S1.out⟩
end Go.Proofs.Ytjladdjpnicldaa.PA
