/- prog.Parse (contract). -/
import Derived.RangeFuncNested
import Derived.RangeFuncBound
import Derived.RangeFuncCalls
import Derived.RangeFuncLeaves
import Derived.Shelf.Abstract
import Derived.Shelf.RegionOpen
import Derived.WalkKit
import Derived.OwnWalkIn
import Derived.TacticsInMore
import Derived.LoopNIn
import Derived.LoopIn
import Derived.OrdersIn
import Derived.BigRegionIn
import Derived.Test.YtdkencepmdfacaaGreatDoorGr13
import Derived.Test.YtdkencepmdfacaaGreatDoorPe
import Derived.Test.YtdkencepmdfacaaGreatDoorGr10
set_option maxRecDepth 100000
namespace Go.Proofs.YtdkencepmdfacaaGreatDoor
open Go.RowKit Go.Shelf Ieee
attribute [local go_sem] Oper.semAt_some

theorem yl_len : ∀ (f : Bool) (ps : List (List UInt8)), (yl f ps).length ≤ ps.length
  | _, [] => by simp [yl]
  | f, [s] => by rw [yl]; split <;> simp
  | _, s :: t :: r => by
    have := yl_len false (t :: r)
    rw [yl, List.length_cons, List.length_cons]
    omega
theorem Turns.grown {S : List Nat} {a b c : World} {row : Option Nat} (h : Turns S a b) (hg : b.grownBy c row) (hr : ∀ k, row = some k → k ∈ S ∨ a.heap.size ≤ k) : Turns S a c :=
  ⟨hg.os.trans h.os, hg.tape.trans h.tape, hg.output.trans h.output, Nat.le_trans h.size hg.size, fun i hi hn => (hg.block i (Nat.lt_of_lt_of_le hi h.size) (fun e => by
    rcases hr i e.symm with h1 | h1
    · exact hn h1
    · omega)).trans (h.block i hi hn)⟩
theorem Turns.below' {S : List Nat} {a b : World} {w : World} (h : Turns S a b) (hb : Below w.heap.size w a) (hS : ∀ x ∈ S, w.heap.size ≤ x) : Below w.heap.size w b := hb.trans (h.below hb.size hS)
theorem ins_turns {S : List Nat} {w0 w : World} {g : Nat} {a b c d e f : Value} (h : Turns S w0 w) (hg : w0.heap.size ≤ g) :
    Turns S w0 ((((((w.setCell ⟨g, 0, none⟩ a).setCell ⟨g, 1, none⟩ b).setCell ⟨g, 2, none⟩ c).setCell ⟨g, 3, none⟩ d).setCell ⟨g, 4, none⟩ e).setCell ⟨g, 5, none⟩ f) :=
  (((((h.set (.inr hg) a).set (.inr hg) b).set (.inr hg) c).set (.inr hg) d).set (.inr hg) e).set (.inr hg) f
theorem ins_row {w : World} {g base : Nat} {v : Value} {l : List Ins} {a b c d e f : Value} (h : RowI w base v l) (hne : ∀ k, v.ownBlock = some k → k ≠ g) :
    RowI ((((((w.setCell ⟨g, 0, none⟩ a).setCell ⟨g, 1, none⟩ b).setCell ⟨g, 2, none⟩ c).setCell ⟨g, 3, none⟩ d).setCell ⟨g, 4, none⟩ e).setCell ⟨g, 5, none⟩ f) base v l :=
  h.turns (S := [g]) ((((((((Turns.refl [g] w).set (p := ⟨g, 0, none⟩) (.inl (by simp)) a).set (p := ⟨g, 1, none⟩) (.inl (by simp)) b).set (p := ⟨g, 2, none⟩) (.inl (by simp)) c).set (p := ⟨g, 3, none⟩) (.inl (by simp)) d).set (p := ⟨g, 4, none⟩) (.inl (by simp)) e).set (p := ⟨g, 5, none⟩) (.inl (by simp)) f)) (fun k hk => by simpa using hne k hk)
/-- the six blocks ahead of the loop -/
theorem parse_start {w w5 : World} {S : ByteArray} (h : w5 = (((((w.alloc (.cells #[.int .i64 0, .slice none 0 0] 71)).alloc (.cells #[.int .i64 0] 25)).alloc (.cells #[.int .i64 0] 3)).alloc (.cells #[.int .i64 0, .slice none 0 0] 71)).alloc (.cells #[.int .i64 0] 3)).alloc (.cells #[.string S] 9)) :
    Cells w5 w.heap.size 71 #[.int .i64 0, .slice none 0 0] ∧ Cells w5 (w.heap.size + 1) 25 #[.int .i64 0] ∧ Cells w5 (w.heap.size + 1 + 1) 3 #[.int .i64 0] ∧ Cells w5 (w.heap.size + 1 + 1 + 1) 71 #[.int .i64 0, .slice none 0 0] ∧
    Cells w5 (w.heap.size + 1 + 1 + 1 + 1) 3 #[.int .i64 0] ∧ Cells w5 (w.heap.size + 1 + 1 + 1 + 1 + 1) 9 #[.string S] ∧ Below w.heap.size w w5 ∧ w5.heap.size = w.heap.size + 1 + 1 + 1 + 1 + 1 + 1 := by
  subst h
  refine ⟨?_, ?_, ?_, ?_, ?_, ?_, ?_, ?_⟩
  · exact (((((Cells.new w _ _).alloc _).alloc _).alloc _).alloc _).alloc _
  · exact ((((Cells.newAt _ _ _ _ (by simp)).alloc _).alloc _).alloc _).alloc _
  · exact (((Cells.newAt _ _ _ _ (by simp)).alloc _).alloc _).alloc _
  · exact ((Cells.newAt _ _ _ _ (by simp)).alloc _).alloc _
  · exact (Cells.newAt _ _ _ _ (by simp)).alloc _
  · exact Cells.newAt _ _ _ _ (by simp)
  · exact ((((((Below.refl _ w).alloc (Nat.le_refl _) _).alloc (by simp) _).alloc (by simp; omega) _).alloc (by simp; omega) _).alloc (by simp; omega) _).alloc (by simp; omega) _
  · simp
/-- the results' three blocks, written -/
theorem parse_stop {W : World} {R2 R3 R4 : Nat} {a b c d x y z u : Value} (h2 : Cells W R2 71 #[a, b]) (h3 : Cells W R3 25 #[c]) (h4 : Cells W R4 3 #[d]) (n23 : R2 ≠ R3) (n24 : R2 ≠ R4) (n34 : R3 ≠ R4) :
    Cells ((((W.setCell ⟨R2, 0, none⟩ x).setCell ⟨R2, 1, none⟩ y).setCell ⟨R3, 0, none⟩ z).setCell ⟨R4, 0, none⟩ u) R2 71 #[x, y] ∧ Cells ((((W.setCell ⟨R2, 0, none⟩ x).setCell ⟨R2, 1, none⟩ y).setCell ⟨R3, 0, none⟩ z).setCell ⟨R4, 0, none⟩ u) R3 25 #[z] ∧
    Cells ((((W.setCell ⟨R2, 0, none⟩ x).setCell ⟨R2, 1, none⟩ y).setCell ⟨R3, 0, none⟩ z).setCell ⟨R4, 0, none⟩ u) R4 3 #[u] ∧ Turns [R2, R3, R4] W ((((W.setCell ⟨R2, 0, none⟩ x).setCell ⟨R2, 1, none⟩ y).setCell ⟨R3, 0, none⟩ z).setCell ⟨R4, 0, none⟩ u) :=
  ⟨(((h2.set 0 x).set 1 y).far n23 z).far n24 u, (((h3.far n23.symm x).far n23.symm y).set 0 z).far n34 u, ((((h4.far n24.symm x).far n24.symm y).far n34.symm z).set 0 u),
   ((((Turns.refl _ W).set (p := ⟨R2, 0, none⟩) (.inl (by simp)) x).set (p := ⟨R2, 1, none⟩) (.inl (by simp)) y).set (p := ⟨R3, 0, none⟩) (.inl (by simp)) z).set (p := ⟨R4, 0, none⟩) (.inl (by simp)) u⟩

theorem stop_facts {W : World} {R2 R3 R4 : Nat} {t2 t3 t4 : TypeId} {a b c d : Value} (h2 : Cells W R2 t2 #[a, b]) (h3 : Cells W R3 t3 #[c]) (h4 : Cells W R4 t4 #[d]) (n23 : R2 ≠ R3) (n24 : R2 ≠ R4) (n34 : R3 ≠ R4) :
    (W.cell? ⟨R2, 0, none⟩ = some a ∧ (∀ x, (W.setCell ⟨R2, 0, none⟩ x).cell? ⟨R2, 1, none⟩ = some b) ∧ (∀ x y, ((W.setCell ⟨R2, 0, none⟩ x).setCell ⟨R2, 1, none⟩ y).cell? ⟨R3, 0, none⟩ = some c) ∧ (∀ x y z, (((W.setCell ⟨R2, 0, none⟩ x).setCell ⟨R2, 1, none⟩ y).setCell ⟨R3, 0, none⟩ z).cell? ⟨R4, 0, none⟩ = some d)) ∧
    W.frozen? ⟨R2, 0, none⟩ = false ∧ W.frozen? ⟨R2, 1, none⟩ = false ∧ W.frozen? ⟨R3, 0, none⟩ = false ∧ W.frozen? ⟨R4, 0, none⟩ = false :=
  ⟨⟨h2.cell (j := 0) rfl, fun x => (h2.set 0 x).cell (j := 1) rfl, fun x y => ((h3.far (a := ⟨R2, 0, none⟩) n23.symm x).far (a := ⟨R2, 1, none⟩) n23.symm y).cell (j := 0) rfl, fun x y z => (((h4.far (a := ⟨R2, 0, none⟩) n24.symm x).far (a := ⟨R2, 1, none⟩) n24.symm y).far (a := ⟨R3, 0, none⟩) n34.symm z).cell (j := 0) rfl⟩, h2.fz 0, h2.fz 1, h3.fz 0, h4.fz 0⟩
def NoGood (p en : Bool) : Prop := p = false ∨ en = false
theorem no_false (p : Bool) : NoGood p false := .inr rfl
theorem no_none (en : Bool) : NoGood false en := .inl rfl
/-- between two lines -/
def PI (w : World) (R3 R4 PB AB bw : Nat) (pre : List (List UInt8 × Bool)) (W : World) : Prop :=
  ∃ (fuel : Nat) (acc : List Ins) (v : Value), Behind pre fuel acc ∧ Cells W w.heap.size 71 #[.int .i64 0, .slice none 0 0] ∧ Cells W R3 25 #[.int .i64 0] ∧ Cells W R4 3 #[.int .i64 0] ∧
    Cells W PB 71 #[.int .i64 (fuel : Nat), v] ∧ Cells W AB 3 #[.int .i64 (pre.length : Nat)] ∧ RowI W bw v acc ∧ Below w.heap.size w W ∧ bw ≤ W.heap.size
/-- at a line that is wrong -/
def PX (w : World) (R3 R4 : Nat) (pre : List (List UInt8 × Bool)) (W : World) : Prop :=
  Leaves pre ∧ Cells W w.heap.size 71 #[.int .i64 0, .slice none 0 0] ∧ Cells W R3 25 #[.int .i64 55] ∧ Cells W R4 3 #[.int .i64 (pre.length : Nat)] ∧ Below w.heap.size w W
theorem pi_own {w : World} {R3 R4 PB AB bw : Nat} (hn : w.heap.size ≤ bw) : OwnFrom bw (PI w R3 R4 PB AB bw) := by
  rintro s A B row ⟨fuel, acc, v, h1, h2, h3, h4, h5, h6, h7, h8, h9⟩ hg hr
  have hr2 : ∀ r, row = some r → ∃ o : Obj, A.heap[r]? = some o ∧ o.isCells = false := fun r e => (hr r e).2
  exact ⟨fuel, acc, v, h1, cells_kept h2 hg hr2, cells_kept h3 hg hr2, cells_kept h4 hg hr2, cells_kept h5 hg hr2, cells_kept h6 hg hr2, rowI_kept h7 hg hr2, h8.grown hg h8.size (fun k e => Nat.le_trans hn (hr k e).1), Nat.le_trans h9 hg.size⟩
theorem px_own {w : World} {R3 R4 bw : Nat} (hn : w.heap.size ≤ bw) : OwnFrom bw (PX w R3 R4) := by
  rintro s A B row ⟨h1, h2, h3, h4, h8⟩ hg hr
  have hr2 : ∀ r, row = some r → ∃ o : Obj, A.heap[r]? = some o ∧ o.isCells = false := fun r e => (hr r e).2
  exact ⟨h1, cells_kept h2 hg hr2, cells_kept h3 hg hr2, cells_kept h4 hg hr2, h8.grown hg h8.size (fun k e => Nat.le_trans hn (hr k e).1)⟩
theorem pi_free {w : World} {R3 R4 PB AB B0 bw : Nat} (h2 : w.heap.size < B0) (h3 : R3 < B0) (h4 : R4 < B0) (h5 : PB < B0) (h6 : AB < B0) (h7 : B0 < bw) : CellFree B0 (PI w R3 R4 PB AB bw) := by
  rintro s W v ⟨fuel, acc, u, k1, k2, k3, k4, k5, k6, k7, k8, k9⟩
  refine ⟨fuel, acc, u, k1, k2.far (a := ⟨B0, 0, none⟩) (Nat.ne_of_lt h2) v, k3.far (a := ⟨B0, 0, none⟩) (Nat.ne_of_lt h3) v, k4.far (a := ⟨B0, 0, none⟩) (Nat.ne_of_lt h4) v, k5.far (a := ⟨B0, 0, none⟩) (Nat.ne_of_lt h5) v, k6.far (a := ⟨B0, 0, none⟩) (Nat.ne_of_lt h6) v, ?_, k8.setCell (Nat.le_of_lt h2) v, by simpa [World.setCell] using k9⟩
  refine k7.turns (S := [B0]) ((Turns.refl _ W).set (p := ⟨B0, 0, none⟩) (.inl (by simp)) v) (fun k hk => ?_)
  have := (World.ownsRow.lt k7 k hk).1
  simp
  omega
theorem px_free {w : World} {R3 R4 B0 : Nat} (h2 : w.heap.size < B0) (h3 : R3 < B0) (h4 : R4 < B0) : CellFree B0 (PX w R3 R4) := by
  rintro s W v ⟨k1, k2, k3, k4, k8⟩
  exact ⟨k1, k2.far (a := ⟨B0, 0, none⟩) (Nat.ne_of_lt h2) v, k3.far (a := ⟨B0, 0, none⟩) (Nat.ne_of_lt h3) v, k4.far (a := ⟨B0, 0, none⟩) (Nat.ne_of_lt h4) v, k8.setCell (Nat.le_of_lt h2) v⟩
/-- the places of the call's own blocks -/
structure Places (n0 R3 R4 PB AB B0 bw : Nat) : Prop where
  e3 : R3 = n0 + 1
  e4 : R4 = n0 + 2
  e5 : PB = n0 + 3
  e6 : AB = n0 + 4
  e7 : B0 = n0 + 5
  e8 : bw = n0 + 6
theorem keeps_of {W W' : World} {S : List Nat} {B0 : Nat} (ht : Turns S W W') (hS : B0 ∉ S) (hlt : B0 < W.heap.size) : KeepsBlock B0 W W' := ht.block B0 hlt hS
/-- a round that goes on -/
theorem pi_next {w W W' : World} {R3 R4 PB AB B0 bw : Nat} {pre : List (List UInt8 × Bool)} {x : List UInt8 × Bool} {fuel fuel' : Nat} {acc acc' : List Ins} {v v' : Value} (hp : Places w.heap.size R3 R4 PB AB B0 bw) (hbw : bw ≤ W.heap.size)
    (h2 : Cells W w.heap.size 71 #[.int .i64 0, .slice none 0 0]) (h3 : Cells W R3 25 #[.int .i64 0]) (h4 : Cells W R4 3 #[.int .i64 0]) (h5 : Cells W PB 71 #[.int .i64 (fuel : Nat), v]) (h6 : Cells W AB 3 #[.int .i64 (pre.length : Nat)]) (h7 : RowI W bw v acc) (h8 : Below w.heap.size w W)
    (ht : Turns (AB :: PB :: v.ownBlock.toList) W W') (hb : Behind (pre ++ [x]) fuel' acc') (k5 : Cells W' PB 71 #[.int .i64 (fuel' : Nat), v']) (k6 : Cells W' AB 3 #[.int .i64 ((pre.length : Nat) + 1)]) (k7 : RowI W' bw v' acc') :
    KeepsFrom bw W W' ∧ KeepsBlock B0 W W' ∧ PI w R3 R4 PB AB bw (pre ++ [x]) W' := by
  obtain ⟨e3, e4, e5, e6, e7, e8⟩ := hp
  have hv : ∀ k, v.ownBlock = some k → bw ≤ k := fun k hk => (World.ownsRow.lt h7 k hk).1
  have hm : ∀ k ∈ AB :: PB :: v.ownBlock.toList, k = AB ∨ k = PB ∨ v.ownBlock = some k := fun k hk => by
    simp at hk
    exact hk
  have hno : ∀ g, g < bw → g ≠ AB → g ≠ PB → g ∉ AB :: PB :: v.ownBlock.toList := fun g h1 h2 h3 hg => by
    rcases hm g hg with h | h | h
    · exact h2 h
    · exact h3 h
    · have := hv g h; omega
  refine ⟨turns_keeps ht fun k hk => ?_, keeps_of ht (hno B0 (by omega) (by omega) (by omega)) (by omega), fuel', acc', v', hb, h2.turns ht (hno _ (by omega) (by omega) (by omega)), h3.turns ht (hno _ (by omega) (by omega) (by omega)), h4.turns ht (hno _ (by omega) (by omega) (by omega)), k5, ?_, k7, ht.below' h8 fun k hk => ?_, Nat.le_trans hbw ht.size⟩
  · rcases hm k hk with rfl | rfl | h
    · exact ⟨_, _, _, h6⟩
    · exact ⟨_, _, _, h5⟩
    · obtain ⟨cur, hcur⟩ := own_block_type h7 h
      exact ⟨_, _, _, hcur⟩
  · rw [List.length_append]
    exact k6
  · rcases hm k hk with h | h | h
    · omega
    · omega
    · have := hv k h; omega
/-- a round that leaves -/
theorem px_next {w W W' W9 : World} {R3 R4 PB AB B0 bw : Nat} {pre : List (List UInt8 × Bool)} {x : List UInt8 × Bool} {fuel : Nat} {acc : List Ins} {v : Value} (hp : Places w.heap.size R3 R4 PB AB B0 bw) (hbw : bw ≤ W.heap.size)
    (h2 : Cells W w.heap.size 71 #[.int .i64 0, .slice none 0 0]) (h3 : Cells W R3 25 #[.int .i64 0]) (h4 : Cells W R4 3 #[.int .i64 0]) (h5 : Cells W PB 71 #[.int .i64 (fuel : Nat), v]) (h6 : Cells W AB 3 #[.int .i64 (pre.length : Nat)]) (h7 : RowI W bw v acc) (h8 : Below w.heap.size w W)
    (ht : Turns (AB :: PB :: v.ownBlock.toList) W W') (hb : Leaves (pre ++ [x]))
    (h9 : W9 = (((W'.setCell ⟨w.heap.size, 0, none⟩ (.int .i64 0)).setCell ⟨w.heap.size, 1, none⟩ (.slice none 0 0)).setCell ⟨R3, 0, none⟩ (.int .i64 55)).setCell ⟨R4, 0, none⟩ (.int .i64 ((pre.length : Nat) + 1))) :
    KeepsFrom bw W W9 ∧ PX w R3 R4 (pre ++ [x]) W9 := by
  obtain ⟨e3, e4, e5, e6, e7, e8⟩ := hp
  have hv : ∀ k, v.ownBlock = some k → bw ≤ k := fun k hk => (World.ownsRow.lt h7 k hk).1
  have hm : ∀ k ∈ AB :: PB :: v.ownBlock.toList, k = AB ∨ k = PB ∨ v.ownBlock = some k := fun k hk => by
    simp at hk
    exact hk
  have hno : ∀ g, g < bw → g ≠ AB → g ≠ PB → g ∉ AB :: PB :: v.ownBlock.toList := fun g h1 h2 h3 hg => by
    rcases hm g hg with h | h | h
    · exact h2 h
    · exact h3 h
    · have := hv g h; omega
  obtain ⟨k2, k3, k4, kt⟩ := parse_stop (x := .int .i64 0) (y := .slice none 0 0) (z := .int .i64 55) (u := .int .i64 ((pre.length : Nat) + 1)) (h2.turns ht (hno _ (by omega) (by omega) (by omega))) (h3.turns ht (hno _ (by omega) (by omega) (by omega))) (h4.turns ht (hno _ (by omega) (by omega) (by omega))) (by omega) (by omega) (by omega)
  rw [← h9] at k2 k3 k4 kt
  have hT : Turns ([w.heap.size, R3, R4] ++ AB :: PB :: v.ownBlock.toList) W W9 := (ht.mono fun y hy => .inl (List.mem_append_right _ hy)).trans (kt.mono fun y hy => .inl (List.mem_append_left _ hy))
  refine ⟨turns_keeps hT fun k hk => ?_, hb, k2, k3, ?_, hT.below' h8 fun k hk => ?_⟩
  · rcases List.mem_append.1 hk with hk | hk
    · simp at hk
      rcases hk with rfl | rfl | rfl
      · exact ⟨_, _, _, h2⟩
      · exact ⟨_, _, _, h3⟩
      · exact ⟨_, _, _, h4⟩
    · rcases hm k hk with rfl | rfl | h
      · exact ⟨_, _, _, h6⟩
      · exact ⟨_, _, _, h5⟩
      · obtain ⟨cur, hcur⟩ := own_block_type h7 h
        exact ⟨_, _, _, hcur⟩
  · rw [List.length_append]
    exact k4
  · rcases List.mem_append.1 hk with hk | hk
    · simp at hk
      omega
    · rcases hm k hk with h | h | h
      · omega
      · omega
      · have := hv k h; omega
theorem ins_far {w : World} {g x : Nat} {t : TypeId} {cs : Array Value} {a b c d e f : Value} (h : Cells w g t cs) (hne : g ≠ x) :
    Cells ((((((w.setCell ⟨x, 0, none⟩ a).setCell ⟨x, 1, none⟩ b).setCell ⟨x, 2, none⟩ c).setCell ⟨x, 3, none⟩ d).setCell ⟨x, 4, none⟩ e).setCell ⟨x, 5, none⟩ f) g t cs :=
  (((((h.far (a := ⟨x, 0, none⟩) hne a).far (a := ⟨x, 1, none⟩) hne b).far (a := ⟨x, 2, none⟩) hne c).far (a := ⟨x, 3, none⟩) hne d).far (a := ⟨x, 4, none⟩) hne e).far (a := ⟨x, 5, none⟩) hne f
/-- behind the call of read -/
structure ReadAt (R2 : Nat) (W w2 : World) (R3 R4 PB AB bw : Nat) (K : Int) (fuel : Nat) (v : Value) (acc : List Ins) : Prop where
  c2 : Cells w2 R2 71 #[.int .i64 0, .slice none 0 0]
  c3 : Cells w2 R3 25 #[.int .i64 0]
  c4 : Cells w2 R4 3 #[.int .i64 0]
  c5 : Cells w2 PB 71 #[.int .i64 (fuel : Nat), v]
  c6 : Cells w2 AB 3 #[.int .i64 K]
  rw7 : RowI w2 bw v acc
  tt : Turns (AB :: PB :: v.ownBlock.toList) W w2
  cx : Cells w2 W.heap.size 102 #[.int .i64 0, .int .i64 0, .int .i64 0, .int .i64 0, .int .i64 0, .int .u64 0]
  hpb : PB < W.heap.size
  own : ∀ k, v.ownBlock = some k → k < W.heap.size
theorem ReadAt.p1 {R2 : Nat} {W w2 : World} {R3 R4 PB AB bw : Nat} {K : Int} {fuel : Nat} {v : Value} {acc : List Ins} (h : ReadAt R2 W w2 R3 R4 PB AB bw K fuel v acc) : w2.cell? ⟨PB, 1, none⟩ = some v := h.c5.cell (j := 1) rfl
theorem ReadAt.p1s {R2 : Nat} {W w2 : World} {R3 R4 PB AB bw : Nat} {K : Int} {fuel : Nat} {v : Value} {acc : List Ins} (h : ReadAt R2 W w2 R3 R4 PB AB bw K fuel v acc) (a b c d e f : Value) :
    ((((((w2.setCell ⟨W.heap.size, 0, none⟩ a).setCell ⟨W.heap.size, 1, none⟩ b).setCell ⟨W.heap.size, 2, none⟩ c).setCell ⟨W.heap.size, 3, none⟩ d).setCell ⟨W.heap.size, 4, none⟩ e).setCell ⟨W.heap.size, 5, none⟩ f).cell? ⟨PB, 1, none⟩ = some v := (ins_far h.c5 (Nat.ne_of_lt h.hpb)).cell (j := 1) rfl
theorem ReadAt.x0 {R2 : Nat} {W w2 : World} {R3 R4 PB AB bw : Nat} {K : Int} {fuel : Nat} {v : Value} {acc : List Ins} (h : ReadAt R2 W w2 R3 R4 PB AB bw K fuel v acc) : w2.cell? ⟨W.heap.size, 0, none⟩ = some (.int .i64 0) := h.cx.cell (j := 0) rfl
theorem ReadAt.x1 {R2 : Nat} {W w2 : World} {R3 R4 PB AB bw : Nat} {K : Int} {fuel : Nat} {v : Value} {acc : List Ins} (h : ReadAt R2 W w2 R3 R4 PB AB bw K fuel v acc) : w2.cell? ⟨W.heap.size, 1, none⟩ = some (.int .i64 0) := h.cx.cell (j := 1) rfl
theorem ReadAt.x2 {R2 : Nat} {W w2 : World} {R3 R4 PB AB bw : Nat} {K : Int} {fuel : Nat} {v : Value} {acc : List Ins} (h : ReadAt R2 W w2 R3 R4 PB AB bw K fuel v acc) : w2.cell? ⟨W.heap.size, 2, none⟩ = some (.int .i64 0) := h.cx.cell (j := 2) rfl
theorem ReadAt.x3 {R2 : Nat} {W w2 : World} {R3 R4 PB AB bw : Nat} {K : Int} {fuel : Nat} {v : Value} {acc : List Ins} (h : ReadAt R2 W w2 R3 R4 PB AB bw K fuel v acc) : w2.cell? ⟨W.heap.size, 3, none⟩ = some (.int .i64 0) := h.cx.cell (j := 3) rfl
theorem ReadAt.x4 {R2 : Nat} {W w2 : World} {R3 R4 PB AB bw : Nat} {K : Int} {fuel : Nat} {v : Value} {acc : List Ins} (h : ReadAt R2 W w2 R3 R4 PB AB bw K fuel v acc) : w2.cell? ⟨W.heap.size, 4, none⟩ = some (.int .i64 0) := h.cx.cell (j := 4) rfl
theorem ReadAt.x5 {R2 : Nat} {W w2 : World} {R3 R4 PB AB bw : Nat} {K : Int} {fuel : Nat} {v : Value} {acc : List Ins} (h : ReadAt R2 W w2 R3 R4 PB AB bw K fuel v acc) : w2.cell? ⟨W.heap.size, 5, none⟩ = some (.int .u64 0) := h.cx.cell (j := 5) rfl
theorem ReadAt.fz {R2 : Nat} {W w2 : World} {R3 R4 PB AB bw : Nat} {K : Int} {fuel : Nat} {v : Value} {acc : List Ins} (h : ReadAt R2 W w2 R3 R4 PB AB bw K fuel v acc) (j : Nat) : w2.frozen? ⟨W.heap.size, j, none⟩ = false := Cells.fz h.cx j
theorem ReadAt.row {R2 : Nat} {W w2 : World} {R3 R4 PB AB bw : Nat} {K : Int} {fuel : Nat} {v : Value} {acc : List Ins} (h : ReadAt R2 W w2 R3 R4 PB AB bw K fuel v acc) (a b c d e f : Value) :
    ((((((w2.setCell ⟨W.heap.size, 0, none⟩ a).setCell ⟨W.heap.size, 1, none⟩ b).setCell ⟨W.heap.size, 2, none⟩ c).setCell ⟨W.heap.size, 3, none⟩ d).setCell ⟨W.heap.size, 4, none⟩ e).setCell ⟨W.heap.size, 5, none⟩ f).ownsRow bw 102 6 v acc.length (acc.flatMap insVals) := by
  exact ins_row h.rw7 fun k hk => Nat.ne_of_lt (h.own k hk)
theorem ReadAt.base {R2 : Nat} {W w2 : World} {R3 R4 PB AB bw : Nat} {K : Int} {fuel : Nat} {v : Value} {acc : List Ins} (h : ReadAt R2 W w2 R3 R4 PB AB bw K fuel v acc) (hb : bw ≤ W.heap.size) {a b c d e f : Value} :
    bw ≤ ((((((w2.setCell ⟨W.heap.size, 0, none⟩ a).setCell ⟨W.heap.size, 1, none⟩ b).setCell ⟨W.heap.size, 2, none⟩ c).setCell ⟨W.heap.size, 3, none⟩ d).setCell ⟨W.heap.size, 4, none⟩ e).setCell ⟨W.heap.size, 5, none⟩ f).heap.size :=
  Nat.le_trans hb (ins_turns h.tt (Nat.le_refl _)).size
theorem read_w2 {w W w2 : World} {R3 R4 PB AB bw : Nat} {K : Int} {fuel : Nat} {v : Value} {acc : List Ins}
    (h : Cells (W.setCell ⟨AB, 0, none⟩ (.int .i64 K)) w.heap.size 71 #[.int .i64 0, .slice none 0 0] ∧ Cells (W.setCell ⟨AB, 0, none⟩ (.int .i64 K)) R3 25 #[.int .i64 0] ∧ Cells (W.setCell ⟨AB, 0, none⟩ (.int .i64 K)) R4 3 #[.int .i64 0] ∧ Cells (W.setCell ⟨AB, 0, none⟩ (.int .i64 K)) PB 71 #[.int .i64 (fuel : Nat), v] ∧ Cells (W.setCell ⟨AB, 0, none⟩ (.int .i64 K)) AB 3 #[.int .i64 K] ∧ RowI (W.setCell ⟨AB, 0, none⟩ (.int .i64 K)) bw v acc ∧ Turns (AB :: PB :: v.ownBlock.toList) W (W.setCell ⟨AB, 0, none⟩ (.int .i64 K)) ∧ Below w.heap.size w (W.setCell ⟨AB, 0, none⟩ (.int .i64 K)))
    (hb : Below ((W.setCell ⟨AB, 0, none⟩ (.int .i64 K)).alloc (.cells #[.int .i64 0, .int .i64 0, .int .i64 0, .int .i64 0, .int .i64 0, .int .u64 0] 102)).heap.size ((W.setCell ⟨AB, 0, none⟩ (.int .i64 K)).alloc (.cells #[.int .i64 0, .int .i64 0, .int .i64 0, .int .i64 0, .int .i64 0, .int .u64 0] 102)) w2)
    (hpb : PB < W.heap.size) (hab : AB < W.heap.size) : ReadAt w.heap.size W w2 R3 R4 PB AB bw K fuel v acc := by
  obtain ⟨e1, e2, e3, e4, e5, e6, e7, e8⟩ := h
  have hs : (W.setCell ⟨AB, 0, none⟩ (.int .i64 K)).heap.size = W.heap.size := by simp [World.setCell]
  exact ⟨(e1.alloc _).keep hb, (e2.alloc _).keep hb, (e3.alloc _).keep hb, (e4.alloc _).keep hb, (e5.alloc _).keep hb, RowI.keep (w := (W.setCell ⟨AB, 0, none⟩ (.int .i64 K)).alloc _) (World.ownsRow.alloc e6 _) hb, (e7.alloc _).trans (Turns.of_below hb), (Cells.newAt _ _ _ W.heap.size hs.symm).keep hb, hpb, fun k hk => by rw [← hs]; exact (World.ownsRow.lt e6 k hk).2⟩
/-- behind the append -/
theorem append_w4 {R2 : Nat} {W w2 w4 : World} {R3 R4 PB AB bw : Nat} {K : Int} {fuel : Nat} {v v' : Value} {acc : List Ins} {X : Ins} {a b c d e f : Value} (h : ReadAt R2 W w2 R3 R4 PB AB bw K fuel v acc)
    (hown : w4.ownsRow bw 102 6 v' (acc.length + 1) (acc.flatMap insVals ++ insVals X))
    (hg : ((((((w2.setCell ⟨W.heap.size, 0, none⟩ a).setCell ⟨W.heap.size, 1, none⟩ b).setCell ⟨W.heap.size, 2, none⟩ c).setCell ⟨W.heap.size, 3, none⟩ d).setCell ⟨W.heap.size, 4, none⟩ e).setCell ⟨W.heap.size, 5, none⟩ f).grownBy w4 v.ownBlock)
    (l2 : R2 < W.heap.size) (l3 : R3 < W.heap.size) (l4 : R4 < W.heap.size) (l6 : AB < W.heap.size) :
    Cells w4 R2 71 #[.int .i64 0, .slice none 0 0] ∧ Cells w4 R3 25 #[.int .i64 0] ∧ Cells w4 R4 3 #[.int .i64 0] ∧ Cells w4 PB 71 #[.int .i64 (fuel : Nat), v] ∧ Cells w4 AB 3 #[.int .i64 K] ∧ RowI w4 bw v' (acc ++ [X]) ∧ Turns (AB :: PB :: v.ownBlock.toList) W w4 := by
  have key : ∀ {g : Nat} {t : TypeId} {cs : Array Value}, Cells w2 g t cs → g < W.heap.size → t ≠ 102 → Cells w4 g t cs := fun {g t cs} hc hl ht =>
    (ins_far hc (Nat.ne_of_lt hl)).grown hg (fun e => h.rw7.ne hc ht g e.symm rfl)
  exact ⟨key h.c2 l2 (by decide), key h.c3 l3 (by decide), key h.c4 l4 (by decide), key h.c5 h.hpb (by decide), key h.c6 l6 (by decide), rowI_snoc hown, (ins_turns h.tt (Nat.le_refl _)).grown hg (fun k hk => .inl (by simp [hk]))⟩

theorem codeWrong_le {many : Nat} : ∀ (l : List Ins) (i : Nat), (codeWrong many l i).2 ≤ i + l.length
  | [], i => by simp [codeWrong]
  | x :: l, i => by
    rw [codeWrong]
    split
    · simp
    · have := codeWrong_le (many := many) l (i + 1)
      rw [List.length_cons]
      omega
theorem prog_at (fuel : Int) (l : List Ins) : (progCheck fuel l).2 ≤ l.length := by
  unfold progCheck
  split
  · simp
  split
  · simp
  · have := codeWrong_le (many := l.length) l 0
    omega
theorem rowI_base {w : World} {b b' : Nat} {v : Value} {l : List Ins} (h : RowI w b v l) (hb : b' ≤ b) : RowI w b' v l := by
  refine ⟨h.1, ?_⟩
  rcases h.2 with h0 | ⟨g, cap, cur, h1, h2, h3⟩
  · exact .inl h0
  · exact .inr ⟨g, cap, cur, h1, Nat.le_trans hb h2, h3⟩
theorem results_parse {w : World} {R2 R3 R4 : Nat} {a b : Value} {c d : Int} {tmps : Array Value} (h2 : Cells w R2 71 #[a, b]) (h3 : Cells w R3 25 #[.int .i64 c]) (h4 : Cells w R4 3 #[.int .i64 d])
    (e2 : tmps.getD 2 undef = .pointer (some ⟨R2, 0, none⟩)) (e3 : tmps.getD 3 undef = .pointer (some ⟨R3, 0, none⟩)) (e4 : tmps.getD 4 undef = .pointer (some ⟨R4, 0, none⟩)) :
    (results Tryz.f82 tmps).run Tryz.prog w = .ok (.tuple #[.agg #[a, b], .int .i64 c, .int .i64 d]) w := by
  have c3 : w.cell? ⟨R3, 0, none⟩ = some (.int .i64 c) := h3.cell (j := 0) rfl
  have c4 : w.cell? ⟨R4, 0, none⟩ = some (.int .i64 d) := h4.cell (j := 0) rfl
  have c2 : w.cell? ⟨R2, 0, none⟩ = some a := h2.cell (j := 0) rfl
  have c1 : w.cell? ⟨R2, 1, none⟩ = some b := h2.cell (j := 1) rfl
  have e2' : tmps[2]?.getD undef = .pointer (some ⟨R2, 0, none⟩) := by simpa using e2
  have e3' : tmps[3]?.getD undef = .pointer (some ⟨R3, 0, none⟩) := by simpa using e3
  have e4' : tmps[4]?.getD undef = .pointer (some ⟨R4, 0, none⟩) := by simpa using e4
  simp [results, Tryz.f82, e2', e3', e4', asAddr, go_sem, c1, c2, c3, c4]
/-- what a text's reader answers -/
def ParseOut (w : World) (text : List UInt8) (e : Ending) (w' : World) : Prop :=
  (∃ A cap, e = .returned (.tuple #[.agg #[.int .i64 ((parseT text).2.2.1 : Nat), .slice A (parseT text).2.2.2.length cap], .int .i64 (parseT text).1, .int .i64 ((parseT text).2.1 : Nat)]) ∧ RowI w' w.heap.size (.slice A (parseT text).2.2.2.length cap) (parseT text).2.2.2 ∧ ∀ x ∈ (parseT text).2.2.2, x.k < 2 * signB) ∧ Below w.heap.size w w'

set_option maxHeartbeats 8000000 in
set_option maxRecDepth 100000 in
theorem pparse_any (text : List UInt8) (hl : text.length < 1073741824) (w : World) (hA : AllAt w) :
    Calls Tryz.prog 82 #[.string (strOf text)] w (ParseOut w text) := by
  refine (callsIn_wide (n := 6)).1 ?_
  refine callsIn_of_wp_marks Tryz.func82 rfl trivial ?_ rfl
  simp only [Tryz.ntmps82, List.size_toArray, List.length_cons, List.length_nil, Nat.reduceAdd, Nat.reduceSub, Array.replicate_succ, Array.replicate_zero, List.push_toArray, List.append_toArray, List.nil_append, List.cons_append]
  have k0 := fun W => lines_any (strOf text) W
  obtain ⟨S, hS⟩ : ∃ S, strOf text = S := ⟨_, rfl⟩
  rw [hS] at k0 ⊢
  have HS := Lib.hid hS
  have HAA : Hid (∀ W, Below w.heap.size w W → AllAt W) := Lib.hid fun W hW => hA.keep hW
  clear hS
  gi_wp2_with (refine ⟨trivial, ?_⟩; gi_at_call 128; refine (callsIn_wide.2 (k0 _)).mono ?_; rintro _ w5 ⟨rfl, hw5⟩)
  rw [← hw5]
  obtain ⟨g2, g3, g4, g5, g6, g7, gB, gs⟩ := parse_start hw5
  clear hw5 k0
  have HP0 : Places w.heap.size (w.heap.size + 1) (w.heap.size + 1 + 1) (w.heap.size + 1 + 1 + 1) (w.heap.size + 1 + 1 + 1 + 1) (w.heap.size + 1 + 1 + 1 + 1 + 1) w5.heap.size := ⟨rfl, rfl, rfl, rfl, rfl, gs⟩
  clear gs
  generalize w.heap.size + 1 + 1 + 1 + 1 + 1 = B0 at *
  generalize w.heap.size + 1 + 1 + 1 + 1 = AB at *
  generalize w.heap.size + 1 + 1 + 1 = PB at *
  generalize w.heap.size + 1 + 1 = R4 at *
  generalize w.heap.size + 1 = R3 at *
  have HP := Lib.hid HP0
  obtain ⟨q3, q4, q5, q6, q7, q8⟩ := HP0
  have g7' : Cells w5 B0 9 #[.string (strOf text)] := by rw [HS.out]; exact g7
  refine wpIn_rangeFunc_cell rfl (by omega) (gf := 170) (lb := #[.pointer (some ⟨B0, 0, none⟩)]) rfl trivial (enters_of Tryz.func170 (by kernel_rfl) rfl)
    (lines1_seq (6 - 1) (by omega) B0 text hl w5 g7') (by omega) (Below.refl _ _) (fun _ => rfl)
    (PI w R3 R4 PB AB w5.heap.size) (fun _ pre W => PX w R3 R4 pre W) (pi_own (by omega)) (px_own (by omega)) (pi_free (by omega) (by omega) (by omega) (by omega) (by omega) (by omega)) (px_free (by omega) (by omega) (by omega))
    ⟨0, [], .slice none 0 0, behind_nil, g2, g3, g4, g5, g6, rowI_nil _ _, gB, Nat.le_refl _⟩
    (fun x => { tmps := #[.string S, undef, .pointer (some ⟨w.heap.size, 0, none⟩), .pointer (some ⟨R3, 0, none⟩), .pointer (some ⟨R4, 0, none⟩), .pointer (some ⟨PB, 0, none⟩), .pointer (some ⟨AB, 0, none⟩), .string (strOf x.1), .bool x.2, undef, undef, undef, undef, undef, undef, .string S, .func (.func 170) #[] #[.pointer (some ⟨B0, 0, none⟩)], .string (strOf x.1), .bool x.2, undef, undef, undef, undef, undef, undef, undef, undef, undef, undef, undef, undef, undef, undef, undef, undef, undef, undef, undef, undef, undef, undef, undef, undef, undef, undef, undef, undef, undef, undef, undef, undef, undef, undef, undef, undef, undef, undef, undef, undef, undef, undef, undef, undef, undef, undef, undef, undef, undef, undef, undef, undef, undef, undef, undef, undef, undef, undef, undef, undef], defers := [] }) ?assign ?body ?done ?stop
  case assign =>
    intro l x W K hK
    clear q3 q4 q5 q6 q7 q8 g2 g3 g4 g5 g6 g7 g7' gB
    dsimp only [encL]
    gi_wp2
    exact hK
  case body =>
    rintro l pre ⟨s, en⟩ W hG ⟨fuel, acc, v, hbe, h2, h3, h4, h5, h6, h7, h8, hsz⟩ hlt
    have hG : s.length < 1073741824 := hG
    clear g2 g3 g4 g5 g6 g7 g7'
    have hbw : w5.heap.size ≤ W.heap.size := hsz
    have hkn : pre.length < 1073741824 := by
      have h1 := yl_len true (spl 10 text)
      have h2 := spl_count 10 text
      have h3 : text.count 10 ≤ text.length := List.count_le_length
      omega
    have hacc : acc.length < 1073741824 := by have := hbe.2.1; omega
    have HPI : Hid (∀ (W' : World) (fuel' : Nat) (acc' : List Ins) (v' : Value), Turns (AB :: PB :: v.ownBlock.toList) W W' → Behind (pre ++ [(s, en)]) fuel' acc' → Cells W' PB 71 #[.int .i64 (fuel' : Nat), v'] → Cells W' AB 3 #[.int .i64 ((pre.length : Nat) + 1)] → RowI W' w5.heap.size v' acc' → KeepsFrom w5.heap.size W W' ∧ KeepsBlock B0 W W' ∧ PI w R3 R4 PB AB w5.heap.size (pre ++ [(s, en)]) W') :=
      Lib.hid fun W' fuel' acc' v' t1 t2 t3 t4 t5 => pi_next HP.out hbw h2 h3 h4 h5 h6 h7 h8 t1 t2 t3 t4 t5
    have HPX : Hid (∀ (W' W9 : World), Turns (AB :: PB :: v.ownBlock.toList) W W' → Leaves (pre ++ [(s, en)]) → W9 = (((W'.setCell ⟨w.heap.size, 0, none⟩ (.int .i64 0)).setCell ⟨w.heap.size, 1, none⟩ (.slice none 0 0)).setCell ⟨R3, 0, none⟩ (.int .i64 55)).setCell ⟨R4, 0, none⟩ (.int .i64 ((pre.length : Nat) + 1)) → KeepsFrom w5.heap.size W W9 ∧ PX w R3 R4 (pre ++ [(s, en)]) W9) :=
      Lib.hid fun W' W9 t1 t2 t3 => px_next HP.out hbw h2 h3 h4 h5 h6 h7 h8 t1 t2 t3
    have HBE := Lib.hid hbe
    have HBW := Lib.hid hbw
    have H2 := Lib.hid h2
    have H3 := Lib.hid h3
    have H4 := Lib.hid h4
    have H5 := Lib.hid h5
    have H7 := Lib.hid h7
    have H6 := Lib.hid h6
    have HN : Hid (w.heap.size ≠ R3 ∧ w.heap.size ≠ R4 ∧ w.heap.size ≠ PB ∧ w.heap.size ≠ AB ∧ R3 ≠ R4 ∧ R3 ≠ PB ∧ R3 ≠ AB ∧ R4 ≠ PB ∧ R4 ≠ AB ∧ PB ≠ AB) := Lib.hid ⟨by omega, by omega, by omega, by omega, by omega, by omega, by omega, by omega, by omega, by omega⟩
    have H8 := Lib.hid h8
    have a0 : W.cell? ⟨AB, 0, none⟩ = some (.int .i64 (pre.length : Nat)) := h6.cell (j := 0) rfl
    have z0 := h6.fz 0
    -- behind at++
    obtain ⟨W1, hW1⟩ : ∃ W1, W1 = W.setCell ⟨AB, 0, none⟩ (.int .i64 ((pre.length : Nat) + 1)) := ⟨_, rfl⟩
    have a1 : (W.setCell ⟨AB, 0, none⟩ (.int .i64 ((pre.length : Nat) + 1))).cell? ⟨AB, 0, none⟩ = some (.int .i64 ((pre.length : Nat) + 1)) := (h6.set 0 _).cell (j := 0) rfl
    have HC1 : Hid (Cells W1 w.heap.size 71 #[.int .i64 0, .slice none 0 0] ∧ Cells W1 R3 25 #[.int .i64 0] ∧ Cells W1 R4 3 #[.int .i64 0] ∧ Cells W1 PB 71 #[.int .i64 (fuel : Nat), v] ∧ Cells W1 AB 3 #[.int .i64 ((pre.length : Nat) + 1)] ∧ RowI W1 w5.heap.size v acc ∧ Turns (AB :: PB :: v.ownBlock.toList) W W1 ∧ Below w.heap.size w W1) := Lib.hid (by
      rw [hW1]
      have ht : Turns (AB :: PB :: v.ownBlock.toList) W (W.setCell ⟨AB, 0, none⟩ (.int .i64 ((pre.length : Nat) + 1))) := (Turns.refl _ W).set (p := ⟨AB, 0, none⟩) (.inl (by simp)) _
      refine ⟨h2.far (a := ⟨AB, 0, none⟩) HN.out.2.2.2.1 _, h3.far (a := ⟨AB, 0, none⟩) HN.out.2.2.2.2.2.2.1 _, h4.far (a := ⟨AB, 0, none⟩) HN.out.2.2.2.2.2.2.2.2.1 _, h5.far (a := ⟨AB, 0, none⟩) HN.out.2.2.2.2.2.2.2.2.2 _, h6.set 0 _, ?_, ht, h8.setCell (by show w.heap.size ≤ AB; omega) _⟩
      exact h7.turns (S := [AB]) ((Turns.refl _ W).set (p := ⟨AB, 0, none⟩) (.inl (by simp)) _) (fun k hk => by simpa using h7.ne h6 (by decide) k hk))
    have hwk : wrap64 ((pre.length : Int) + 1) = (pre.length : Int) + 1 := by unfold wrap64; omega
    have kc := cutfuel_any s
    have hfw : (strOf fuelW) = ({ data := #[102, 117, 101, 108, 32] } : ByteArray) := rfl
    rw [hfw] at kc
    have KC := Lib.hid kc
    subst hW1
    clear hbe h2 h3 h4 h5 h6 h7 h8 kc hfw q3 q4 q5 q6 q7 q8 gB hbw hsz
    dsimp only
    by_cases hp0 : pre = []
    · have b0 : (((pre.length : Int) + 1) == 1) = true := by rw [hp0]; rfl
      have hfp := fuel_prefix s
      have hle : (Lib.trimPrefix s fuelW).length < 1073741824 := by
        unfold Lib.trimPrefix
        split
        · rw [List.length_drop]; omega
        · exact hG
      have HG : Hid (∀ f, fuelOf s = some f → en = true → Behind (pre ++ [(s, en)]) f acc) := Lib.hid fun f hf he => by
        have hac : acc = [] := by
          have := HBE.out.2.1
          rw [hp0] at this
          exact List.length_eq_zero_iff.1 (by simpa using this)
        rw [hp0, hac, he]
        exact behind_fuel hf
      have HL : Hid (NoGood (fuelOf s).isSome en → Leaves (pre ++ [(s, en)])) := Lib.hid fun h => by
        rcases h with h | h
        · rw [hp0]; exact leaves_fuel (Option.isNone_iff_eq_none.1 (by rw [← Option.not_isSome, h]; rfl))
        · rw [h]; exact leaves_open HBE.out
      have HKN : Hid (∀ W, AllAt W → Calls Tryz.prog 129 #[.string (strOf (Lib.trimPrefix s fuelW))] W fun e w' => (∃ n : Int, e = .returned (.tuple #[.int .i64 n, .bool (numOf (Lib.trimPrefix s fuelW)).isSome]) ∧ (∀ m, numOf (Lib.trimPrefix s fuelW) = some m → n = (m : Int))) ∧ Below W.heap.size W w') := Lib.hid fun W hW => pnum_any _ hle W hW
      obtain ⟨PN, hPN⟩ : ∃ PN : Int → Prop, (fun n : Int => ∀ m : Nat, numOf (Lib.trimPrefix s fuelW) = some m → n = (m : Int)) = PN := ⟨_, rfl⟩
      have HPN : Hid (∀ n f, numOf (Lib.trimPrefix s fuelW) = some f → PN n → n = (f : Int)) := Lib.hid fun n f hf hp => by rw [← hPN] at hp; exact hp f hf
      replace HKN : Hid (∀ W, AllAt W → Calls Tryz.prog 129 #[.string (strOf (Lib.trimPrefix s fuelW))] W fun e w' => (∃ n : Int, e = .returned (.tuple #[.int .i64 n, .bool (numOf (Lib.trimPrefix s fuelW)).isSome]) ∧ PN n) ∧ Below W.heap.size W w') := Lib.hid (hPN ▸ HKN.out)
      have HFP := Lib.hid hfp
      clear hfp hle hp0 hPN
      generalize strOf (Lib.trimPrefix s fuelW) = St at *
      generalize strOf s = Ss at *
      cases hpf : Lib.hasPrefix s fuelW <;> rcases hnn : numOf (Lib.trimPrefix s fuelW) with _ | f <;> cases en
      all_goals rw [hpf] at KC HFP
      all_goals rw [hnn] at HKN HFP
      all_goals dsimp only [Option.isSome] at HKN
      all_goals (try have HLV := HL.out (no_false _))
      all_goals (try have HLV := HL.out (by rw [HFP.out]; exact no_none _))
      all_goals (try have HLW := Lib.hid HLV)
      all_goals (try clear HLV)
      all_goals (try have HGV := Lib.hid (HG.out _ (HFP.out.trans (if_pos rfl)) rfl))
      all_goals (try have HPV := Lib.hid fun n => HPN.out n _ hnn)
      all_goals clear HG HL HFP HPN
      all_goals gi_wp2_with (first | (refine ⟨trivial, ?_⟩; gi_at_call 51; refine (CallsIn.inRound l (callsIn_wide.2 (KC.out _))).mono ?_; rintro _ _ ⟨rfl, rfl⟩) | (refine ⟨trivial, ?_⟩; gi_at_call 129; refine (CallsIn.inRound l (callsIn_wide.2 (HKN.out _ (HAA.out _ HC1.out.2.2.2.2.2.2.2)))).mono ?_; rintro _ w2 ⟨⟨nn, rfl, hnm⟩, hb2⟩; have HNM := Lib.hid hnm; have HB2 := Lib.hid hb2; have p0 : w2.cell? ⟨PB, 0, none⟩ = some (.int .i64 (fuel : Nat)) := (HC1.out.2.2.2.1.keep hb2).cell (j := 0) rfl; have zp := (HC1.out.2.2.2.1.keep hb2).fz 0; clear hnm hb2))
      all_goals generalize hw3 : World.setCell w2 _ _ = w3
      all_goals have HW3 : Hid (Cells w3 w.heap.size 71 #[.int .i64 0, .slice none 0 0] ∧ Cells w3 R3 25 #[.int .i64 0] ∧ Cells w3 R4 3 #[.int .i64 0] ∧ Cells w3 PB 71 #[.int .i64 nn, v] ∧ Cells w3 AB 3 #[.int .i64 ((pre.length : Nat) + 1)] ∧ RowI w3 w5.heap.size v acc ∧ Turns (AB :: PB :: v.ownBlock.toList) W w3) := Lib.hid (by
        rw [← hw3]
        obtain ⟨e1, e2, e3, e4, e5, e6, e7, e8⟩ := HC1.out
        refine ⟨(e1.keep HB2.out).far (a := ⟨PB, 0, none⟩) HN.out.2.2.1 _, (e2.keep HB2.out).far (a := ⟨PB, 0, none⟩) HN.out.2.2.2.2.2.1 _, (e3.keep HB2.out).far (a := ⟨PB, 0, none⟩) HN.out.2.2.2.2.2.2.2.1 _, (e4.keep HB2.out).set 0 _, (e5.keep HB2.out).far (a := ⟨PB, 0, none⟩) HN.out.2.2.2.2.2.2.2.2.2.symm _, ?_, (e7.trans (Turns.of_below HB2.out)).set (p := ⟨PB, 0, none⟩) (.inl (by simp)) _⟩
        exact (e6.keep HB2.out).turns (S := [PB]) ((Turns.refl _ w2).set (p := ⟨PB, 0, none⟩) (.inl (by simp)) _) (fun k hk => by simpa using (e6.keep HB2.out).ne (e4.keep HB2.out) (by decide) k hk))
      all_goals first
        | (
        obtain ⟨e1, e2, e3, e4, e5, e6, e7⟩ := HW3.out
        have ab : w3.drew.cell? ⟨AB, 0, none⟩ = some (.int .i64 ((pre.length : Nat) + 1)) := e5.drew.cell (j := 0) rfl
        have ab2 : w3.cell? ⟨AB, 0, none⟩ = some (.int .i64 ((pre.length : Nat) + 1)) := e5.cell (j := 0) rfl
        obtain ⟨⟨r1, r2, r3, r4⟩, r5, r6, r7, r8⟩ := stop_facts e1.drew e2.drew e3.drew HN.out.1 HN.out.2.1 HN.out.2.2.2.2.1
        obtain ⟨⟨s1, s2, s3, s4⟩, s5, s6, s7, s8⟩ := stop_facts e1 e2 e3 HN.out.1 HN.out.2.1 HN.out.2.2.2.2.1
        have s9 : w3.cell? ⟨w.heap.size, 1, none⟩ = some (.slice none 0 0) := e1.cell (j := 1) rfl
        have HT := Lib.hid e7
        have ab3 : ∀ x y, ((w3.drew.setCell ⟨w.heap.size, 0, none⟩ x).setCell ⟨w.heap.size, 1, none⟩ y).cell? ⟨AB, 0, none⟩ = some (.int .i64 ((pre.length : Nat) + 1)) := fun x y => ((e5.drew.far (a := ⟨w.heap.size, 0, none⟩) HN.out.2.2.2.1.symm x).far (a := ⟨w.heap.size, 1, none⟩) HN.out.2.2.2.1.symm y).cell (j := 0) rfl
        have ab4 : ∀ x y z, (((w3.drew.setCell ⟨w.heap.size, 0, none⟩ x).setCell ⟨w.heap.size, 1, none⟩ y).setCell ⟨R3, 0, none⟩ z).cell? ⟨AB, 0, none⟩ = some (.int .i64 ((pre.length : Nat) + 1)) := fun x y z => (((e5.drew.far (a := ⟨w.heap.size, 0, none⟩) HN.out.2.2.2.1.symm x).far (a := ⟨w.heap.size, 1, none⟩) HN.out.2.2.2.1.symm y).far (a := ⟨R3, 0, none⟩) HN.out.2.2.2.2.2.2.1.symm z).cell (j := 0) rfl
        have ab5 : ∀ x y, ((w3.setCell ⟨w.heap.size, 0, none⟩ x).setCell ⟨w.heap.size, 1, none⟩ y).cell? ⟨AB, 0, none⟩ = some (.int .i64 ((pre.length : Nat) + 1)) := fun x y => ((e5.far (a := ⟨w.heap.size, 0, none⟩) HN.out.2.2.2.1.symm x).far (a := ⟨w.heap.size, 1, none⟩) HN.out.2.2.2.1.symm y).cell (j := 0) rfl
        have ab6 : ∀ x y z, (((w3.setCell ⟨w.heap.size, 0, none⟩ x).setCell ⟨w.heap.size, 1, none⟩ y).setCell ⟨R3, 0, none⟩ z).cell? ⟨AB, 0, none⟩ = some (.int .i64 ((pre.length : Nat) + 1)) := fun x y z => (((e5.far (a := ⟨w.heap.size, 0, none⟩) HN.out.2.2.2.1.symm x).far (a := ⟨w.heap.size, 1, none⟩) HN.out.2.2.2.1.symm y).far (a := ⟨R3, 0, none⟩) HN.out.2.2.2.2.2.2.1.symm z).cell (j := 0) rfl
        clear e1 e2 e3 e4 e5 e6 e7
        have hmx : Tryz.prog.follows .mixedOrders = true := by kernel_rfl
        gi_region_with_o (fail)
        all_goals gi_wp2
        all_goals exact HPX.out w3.drew _ HT.out.drew HLW.out rfl)
        | (have hne := HPV.out _ HNM.out; exact HPI.out w3 f acc v HW3.out.2.2.2.2.2.2 HGV.out (by rw [← hne]; exact HW3.out.2.2.2.1) HW3.out.2.2.2.2.1 HW3.out.2.2.2.2.2.1)
    · have b0 : (((pre.length : Int) + 1) == 1) = false := by
        rw [beq_eq_false_iff_ne]
        have : pre.length ≠ 0 := by simpa using hp0
        omega
      obtain ⟨Av, capv, rfl⟩ := H7.out.shape
      obtain ⟨i0, hi, hz0, hz1, hz2⟩ := info_parts ins_info
      obtain ⟨PR, hPR⟩ : ∃ PR : Ins → Prop, (fun X : Ins => ∀ y, readIns s = some y → X = y) = PR := ⟨_, rfl⟩
      obtain ⟨okb, hok⟩ : ∃ okb, (readIns s).isSome = okb := ⟨_, rfl⟩
      have HKR : Hid (∀ W, AllAt W → Calls Tryz.prog 130 #[.string (strOf s)] W fun e w' => (∃ X : Ins, e = .returned (.tuple #[.agg #[.int .i64 X.op, .int .i64 X.a, .int .i64 X.b, .int .i64 X.c, .int .i64 X.n, .int .u64 X.k], .bool okb]) ∧ PR X) ∧ Below W.heap.size W w') := Lib.hid fun W hW => hok ▸ hPR ▸ pread_any s hG W hW
      have HG : Hid (okb = true → en = true → ∀ X, PR X → Behind (pre ++ [(s, en)]) fuel (acc ++ [X])) := Lib.hid fun h1 h2 X hX => by
        rw [← hPR] at hX
        rw [h1] at hok
        obtain ⟨y, hy⟩ := Option.isSome_iff_exists.1 hok
        rw [h2]
        exact behind_ins HBE.out hp0 (by rw [hX y hy]; exact hy)
      have HL : Hid (NoGood okb en → Leaves (pre ++ [(s, en)])) := Lib.hid fun h => by
        rcases h with h | h
        · rw [h] at hok
          exact leaves_ins HBE.out hp0 (Option.isNone_iff_eq_none.1 (by rw [← Option.not_isSome, hok]; rfl))
        · rw [h]; exact leaves_open HBE.out
      clear hPR hok hp0
      generalize strOf s = Ss at *
      have HACC := Lib.hid hacc
      have HSZ := Lib.hid (show PB < W.heap.size ∧ AB < W.heap.size ∧ w5.heap.size ≤ W.heap.size ∧ w.heap.size < W.heap.size ∧ R3 < W.heap.size ∧ R4 < W.heap.size from ⟨H5.out.lt, H6.out.lt, HBW.out, H2.out.lt, H3.out.lt, H4.out.lt⟩)
      cases okb <;> cases en
      all_goals (try have HLV := HL.out (no_false _))
      all_goals (try have HLV := HL.out (no_none _))
      all_goals (try have HLW := Lib.hid HLV)
      all_goals (try clear HLV)
      all_goals (try have HGV := Lib.hid (HG.out rfl rfl))
      all_goals clear HG HL
      all_goals gi_wp2_with (first
        | (refine ⟨trivial, ?_⟩; gi_at_call 51; refine (CallsIn.inRound l (callsIn_wide.2 (KC.out _))).mono ?_; rintro _ _ ⟨rfl, rfl⟩)
        | (refine ⟨trivial, ?_⟩; gi_at_call 130; refine (CallsIn.inRound l (callsIn_wide.2 (HKR.out _ (HAA.out _ (HC1.out.2.2.2.2.2.2.2.alloc HC1.out.2.2.2.2.2.2.2.size _))))).mono ?_; rintro _ w2 ⟨⟨X, rfl, hX⟩, hb2⟩; have HXP := Lib.hid hX; have HRW := Lib.hid (read_w2 HC1.out hb2 HSZ.out.1 HSZ.out.2.1); have p1 := HRW.out.p1; have p1s := HRW.out.p1s; have x0 := HRW.out.x0; have x1 := HRW.out.x1; have x2 := HRW.out.x2; have x3 := HRW.out.x3; have x4 := HRW.out.x4; have x5 := HRW.out.x5; have y0 := HRW.out.fz 0; have y1 := HRW.out.fz 1; have y2 := HRW.out.fz 2; have y3 := HRW.out.fz 3; have y4 := HRW.out.fz 4; have y5 := HRW.out.fz 5; clear hX hb2)
        | (gi_at_builtin; refine wpListIn_append_elem' rfl _ _ 69 rfl w5.heap.size 102 i0 _ 6 48 Tryz.underlying69 hi hz0 hz1 hz2 rfl (by decide) _ _ _ rfl (HRW.out.row _ _ _ _ _ _) #[.int .i64 X.op, .int .i64 X.a, .int .i64 X.b, .int .i64 X.c, .int .i64 X.n, .int .u64 X.k] rfl (by simp [Value.oneCell']) _ rfl (by simp [World.setCell]) HACC.out (by decide) (HRW.out.base HSZ.out.2.2.1) ?_; intro v' w4 hown hgrow; obtain ⟨g', cap', rfl⟩ := ownsRow_succ hown; have HAP := Lib.hid (append_w4 (X := X) HRW.out hown hgrow HSZ.out.2.2.2.1 HSZ.out.2.2.2.2.1 HSZ.out.2.2.2.2.2 HSZ.out.2.1); have q1 := HAP.out.2.2.2.1.cell (j := 1) rfl; have qz := HAP.out.2.2.2.1.fz 1; clear hown hgrow))
      all_goals generalize hw3 : World.setCell w4 _ _ = w3
      all_goals have HW3 : Hid (Cells w3 w.heap.size 71 #[.int .i64 0, .slice none 0 0] ∧ Cells w3 R3 25 #[.int .i64 0] ∧ Cells w3 R4 3 #[.int .i64 0] ∧ Cells w3 PB 71 #[.int .i64 (fuel : Nat), .slice (some ⟨g', 0, none⟩) (acc.length + 1) cap'] ∧ Cells w3 AB 3 #[.int .i64 ((pre.length : Nat) + 1)] ∧ RowI w3 w5.heap.size (.slice (some ⟨g', 0, none⟩) (acc.length + 1) cap') (acc ++ [X]) ∧ Turns (AB :: PB :: (Value.slice Av acc.length capv).ownBlock.toList) W w3) := Lib.hid (by
        rw [← hw3]
        obtain ⟨e1, e2, e3, e4, e5, e6, e7⟩ := HAP.out
        refine ⟨e1.far (a := ⟨PB, 1, none⟩) HN.out.2.2.1 _, e2.far (a := ⟨PB, 1, none⟩) HN.out.2.2.2.2.2.1 _, e3.far (a := ⟨PB, 1, none⟩) HN.out.2.2.2.2.2.2.2.1 _, e4.set 1 _, e5.far (a := ⟨PB, 1, none⟩) HN.out.2.2.2.2.2.2.2.2.2.symm _, ?_, e7.set (p := ⟨PB, 1, none⟩) (.inl (by simp)) _⟩
        exact e6.turns (S := [PB]) ((Turns.refl _ w4).set (p := ⟨PB, 1, none⟩) (.inl (by simp)) _) (fun k hk => by simpa using e6.ne e4 (by decide) k hk))
      all_goals first
        | exact HPI.out w3 fuel (acc ++ [X]) _ HW3.out.2.2.2.2.2.2 (HGV.out X HXP.out) HW3.out.2.2.2.1 HW3.out.2.2.2.2.1 HW3.out.2.2.2.2.2.1
        | (
        obtain ⟨e1, e2, e3, e4, e5, e6, e7⟩ := HW3.out
        have ab : w3.drew.cell? ⟨AB, 0, none⟩ = some (.int .i64 ((pre.length : Nat) + 1)) := e5.drew.cell (j := 0) rfl
        have ab2 : w3.cell? ⟨AB, 0, none⟩ = some (.int .i64 ((pre.length : Nat) + 1)) := e5.cell (j := 0) rfl
        obtain ⟨⟨r1, r2, r3, r4⟩, r5, r6, r7, r8⟩ := stop_facts e1.drew e2.drew e3.drew HN.out.1 HN.out.2.1 HN.out.2.2.2.2.1
        obtain ⟨⟨s1, s2, s3, s4⟩, s5, s6, s7, s8⟩ := stop_facts e1 e2 e3 HN.out.1 HN.out.2.1 HN.out.2.2.2.2.1
        have s9 : w3.cell? ⟨w.heap.size, 1, none⟩ = some (.slice none 0 0) := e1.cell (j := 1) rfl
        have HT := Lib.hid e7
        have ab3 : ∀ x y, ((w3.drew.setCell ⟨w.heap.size, 0, none⟩ x).setCell ⟨w.heap.size, 1, none⟩ y).cell? ⟨AB, 0, none⟩ = some (.int .i64 ((pre.length : Nat) + 1)) := fun x y => ((e5.drew.far (a := ⟨w.heap.size, 0, none⟩) HN.out.2.2.2.1.symm x).far (a := ⟨w.heap.size, 1, none⟩) HN.out.2.2.2.1.symm y).cell (j := 0) rfl
        have ab4 : ∀ x y z, (((w3.drew.setCell ⟨w.heap.size, 0, none⟩ x).setCell ⟨w.heap.size, 1, none⟩ y).setCell ⟨R3, 0, none⟩ z).cell? ⟨AB, 0, none⟩ = some (.int .i64 ((pre.length : Nat) + 1)) := fun x y z => (((e5.drew.far (a := ⟨w.heap.size, 0, none⟩) HN.out.2.2.2.1.symm x).far (a := ⟨w.heap.size, 1, none⟩) HN.out.2.2.2.1.symm y).far (a := ⟨R3, 0, none⟩) HN.out.2.2.2.2.2.2.1.symm z).cell (j := 0) rfl
        have ab5 : ∀ x y, ((w3.setCell ⟨w.heap.size, 0, none⟩ x).setCell ⟨w.heap.size, 1, none⟩ y).cell? ⟨AB, 0, none⟩ = some (.int .i64 ((pre.length : Nat) + 1)) := fun x y => ((e5.far (a := ⟨w.heap.size, 0, none⟩) HN.out.2.2.2.1.symm x).far (a := ⟨w.heap.size, 1, none⟩) HN.out.2.2.2.1.symm y).cell (j := 0) rfl
        have ab6 : ∀ x y z, (((w3.setCell ⟨w.heap.size, 0, none⟩ x).setCell ⟨w.heap.size, 1, none⟩ y).setCell ⟨R3, 0, none⟩ z).cell? ⟨AB, 0, none⟩ = some (.int .i64 ((pre.length : Nat) + 1)) := fun x y z => (((e5.far (a := ⟨w.heap.size, 0, none⟩) HN.out.2.2.2.1.symm x).far (a := ⟨w.heap.size, 1, none⟩) HN.out.2.2.2.1.symm y).far (a := ⟨R3, 0, none⟩) HN.out.2.2.2.2.2.2.1.symm z).cell (j := 0) rfl
        clear e1 e2 e3 e4 e5 e6 e7
        have hmx : Tryz.prog.follows .mixedOrders = true := by kernel_rfl
        gi_region_with_o (fail)
        all_goals gi_wp2
        all_goals exact HPX.out w3.drew _ HT.out.drew HLW.out rfl)
  case done =>
    rintro D xs W hD hxs ⟨fuel, acc, v, hbe, h2, h3, h4, h5, h6, h7, h8, h9⟩ hK
    obtain ⟨A, cap, rfl⟩ := h7.shape
    have hxs : xs = yl true (spl 10 text) := hxs
    have hres : parseT text = checkRes fuel acc := by
      have := hbe.1 []
      rw [List.append_nil, hxs] at this
      rw [parseT_yl, this]
      rfl
    have hk := hbe.2.2.1
    have hal : acc.length < 1073741825 := by
      have h1 := yl_len true (spl 10 text)
      have h2 := spl_count 10 text
      have h3 : text.count 10 ≤ text.length := List.count_le_length
      have h4 := hbe.2.1
      rw [hxs] at h4
      omega
    have kch := check_any (fuel : Nat) A acc cap W (h7.code hk)
    have hatb := prog_at (fuel : Nat) acc
    have p0 : W.cell? ⟨PB, 0, none⟩ = some (.int .i64 (fuel : Nat)) := h5.cell (j := 0) rfl
    have p1 : W.cell? ⟨PB, 1, none⟩ = some (.slice A acc.length cap) := h5.cell (j := 1) rfl
    have HN : Hid (w.heap.size ≠ R3 ∧ w.heap.size ≠ R4 ∧ R3 ≠ R4 ∧ D ≠ w.heap.size ∧ D ≠ R3 ∧ D ≠ R4 ∧ w.heap.size ≤ w5.heap.size ∧ w.heap.size ≤ R3 ∧ w.heap.size ≤ R4) := Lib.hid ⟨by omega, by omega, by omega, by omega, by omega, by omega, by omega, by omega, by omega⟩
    obtain ⟨er, her⟩ : ∃ er, (progCheck (fuel : Nat) acc).1 = er := ⟨_, rfl⟩
    obtain ⟨at_, hat⟩ : ∃ at_, (progCheck (fuel : Nat) acc).2 = at_ := ⟨_, rfl⟩
    rw [her, hat] at kch
    rw [hat] at hatb
    have hcr : parseT text = if er = 0 then (0, 0, fuel, acc) else if er = 56 then (56, 1, 0, []) else if er = 50 then (50, 0, 0, []) else (er, at_ + 2, 0, []) := by
      rw [hres]
      unfold checkRes
      rw [her, hat]
    have hwa : wrap64 ((at_ : Int) + 2) = ((at_ + 2 : Nat) : Int) := by unfold wrap64; omega
    have H2 := Lib.hid h2
    have H3 := Lib.hid h3
    have H4 := Lib.hid h4
    have H5 := Lib.hid h5
    have H7 := Lib.hid h7
    have H8 := Lib.hid h8
    have HK := Lib.hid hK
    have HR := Lib.hid hk
    have HCR := Lib.hid hcr
    have KCH := Lib.hid kch
    -- the end, whatever is told
    have HEND : Hid (∀ (w7 w9 : World) (F : Int) (B : Option Addr) (n c : Nat) (E : Int) (K : Nat), Below W.heap.size W w7 → w9 = (((w7.setCell ⟨w.heap.size, 0, none⟩ (.int .i64 F)).setCell ⟨w.heap.size, 1, none⟩ (.slice B n c)).setCell ⟨R3, 0, none⟩ (.int .i64 E)).setCell ⟨R4, 0, none⟩ (.int .i64 (K : Nat)) →
        (∀ w', RowI w' w.heap.size (.slice A acc.length cap) acc → Below w.heap.size w w' → ParseOut w text (.returned (.tuple #[.agg #[.int .i64 F, .slice B n c], .int .i64 E, .int .i64 (K : Nat)])) w') →
        w9.heap[D]? = some (.deferred (some [])) ∧ ∀ tmps : Array Value, tmps.getD 2 undef = .pointer (some ⟨w.heap.size, 0, none⟩) → tmps.getD 3 undef = .pointer (some ⟨R3, 0, none⟩) → tmps.getD 4 undef = .pointer (some ⟨R4, 0, none⟩) →
          ∃ v, (results Tryz.f82 tmps).run Tryz.prog (w9.putObj D (.deferred none)) = .ok v (w9.putObj D (.deferred none)) ∧ ParseOut w text (.returned v) (w9.putObj D (.deferred none))) := Lib.hid (fun w7 w9 F B n c E K hb7 h9 hpo => by
      obtain ⟨k2, k3, k4, kt⟩ := parse_stop (x := .int .i64 F) (y := .slice B n c) (z := .int .i64 E) (u := .int .i64 (K : Nat)) (H2.out.keep hb7) (H3.out.keep hb7) (H4.out.keep hb7) HN.out.1 HN.out.2.1 HN.out.2.2.1
      rw [← h9] at k2 k3 k4 kt
      have hD7 : w7.heap[D]? = some (.deferred (some [])) := (hb7.block D (lt_of_block HK.out)).trans HK.out
      have hD9 : w9.heap[D]? = some (.deferred (some [])) := kt.keep hD7 (by simp; exact ⟨HN.out.2.2.2.1, HN.out.2.2.2.2.1, HN.out.2.2.2.2.2.1⟩)
      refine ⟨hD9, fun tmps t2 t3 t4 => ⟨_, results_parse (a := .int .i64 F) (b := .slice B n c) (c := E) (d := (K : Nat)) (cells_kept k2 (grownBy_putObj' _ D _) (fun r e => by cases e; exact ⟨_, hD9, rfl⟩)) (cells_kept k3 (grownBy_putObj' _ D _) (fun r e => by cases e; exact ⟨_, hD9, rfl⟩)) (cells_kept k4 (grownBy_putObj' _ D _) (fun r e => by cases e; exact ⟨_, hD9, rfl⟩)) t2 t3 t4, hpo _ ?_ ?_⟩⟩
      · refine rowI_base (rowI_kept ((H7.out.keep hb7).turns kt fun k hk => ?_) (grownBy_putObj' _ D _) (fun r e => by cases e; exact ⟨_, hD9, rfl⟩)) HN.out.2.2.2.2.2.2.1
        have a2 := H7.out.ne H2.out (by decide) k hk
        have a3 := H7.out.ne H3.out (by decide) k hk
        have a4 := H7.out.ne H4.out (by decide) k hk
        simp
        exact ⟨a2, a3, a4⟩
      · have hB9 : Below w.heap.size w w9 := (kt.below' (H8.out.trans (Below.mono hb7 H8.out.size)) (by simp; exact ⟨HN.out.2.2.2.2.2.2.2.1, HN.out.2.2.2.2.2.2.2.2⟩))
        exact hB9.trans (belowK_b (w := w5) HN.out.2.2.2.2.2.2.1 w9 D _ _ hD hD9 rfl rfl))
    clear hbe h2 h3 h4 h5 h6 h7 h8 h9 hK hk hres kch hal hatb her hat hcr hxs q3 q4 q5 q6 q7 q8 g2 g3 g4 g5 g6 g7 g7' gB hD
    by_cases c0 : er = 0
    · subst c0
      have HPO : Hid (∀ w', RowI w' w.heap.size (.slice A acc.length cap) acc → Below w.heap.size w w' → ParseOut w text (.returned (.tuple #[.agg #[.int .i64 (fuel : Nat), .slice A acc.length cap], .int .i64 0, .int .i64 ((0 : Nat) : Int)])) w') := Lib.hid fun w' hr hb => by
        have e := HCR.out.trans (if_pos rfl)
        unfold ParseOut
        rw [e]
        exact ⟨⟨A, cap, rfl, hr, HR.out⟩, hb⟩
      gi_wp2_with (refine ⟨trivial, ?_⟩; gi_at_call 66; refine (callsIn_wide.2 KCH.out).mono ?_; rintro _ w7 ⟨rfl, hb7⟩; have HB7 := Lib.hid hb7; obtain ⟨⟨s1, s2, s3, s4⟩, s5, s6, s7, s8⟩ := stop_facts (H2.out.keep hb7) (H3.out.keep hb7) (H4.out.keep hb7) HN.out.1 HN.out.2.1 HN.out.2.2.1; have u0 : w7.cell? ⟨PB, 0, none⟩ = some (.int .i64 (fuel : Nat)) := (H5.out.keep hb7).cell (j := 0) rfl; have u1 : w7.cell? ⟨PB, 1, none⟩ = some (.slice A acc.length cap) := (H5.out.keep hb7).cell (j := 1) rfl; have s9 : w7.cell? ⟨w.heap.size, 1, none⟩ = some (.slice none 0 0) := (H2.out.keep hb7).cell (j := 1) rfl; clear hb7)
      generalize hw9 : World.setCell _ _ _ = w9
      obtain ⟨hD9, hfin⟩ := HEND.out w7 w9 _ _ _ _ _ _ HB7.out hw9.symm HPO.out
      refine ⟨by simp, .inl ⟨_, _, rfl, run_takeDeferred hD9, ?_⟩⟩
      exact hfin _ rfl rfl rfl
    have HER := Lib.hid c0
    have b0 : (er == 0) = false := by rw [beq_eq_false_iff_ne]; exact c0
    clear c0
    by_cases c1 : er = 56
    · subst c1
      have HPO : Hid (∀ w', RowI w' w.heap.size (.slice A acc.length cap) acc → Below w.heap.size w w' → ParseOut w text (.returned (.tuple #[.agg #[.int .i64 0, .slice none 0 0], .int .i64 56, .int .i64 ((1 : Nat) : Int)])) w') := Lib.hid fun w' _ hb => by
        have e := HCR.out.trans ((if_neg (by decide)).trans (if_pos rfl))
        unfold ParseOut
        rw [e]
        exact ⟨⟨none, 0, rfl, rowI_nil _ _, fun x hx => by cases hx⟩, hb⟩
      clear b0
      gi_wp2_with (refine ⟨trivial, ?_⟩; gi_at_call 66; refine (callsIn_wide.2 KCH.out).mono ?_; rintro _ w7 ⟨rfl, hb7⟩; have HB7 := Lib.hid hb7; obtain ⟨⟨s1, s2, s3, s4⟩, s5, s6, s7, s8⟩ := stop_facts (H2.out.keep hb7) (H3.out.keep hb7) (H4.out.keep hb7) HN.out.1 HN.out.2.1 HN.out.2.2.1; have u0 : w7.cell? ⟨PB, 0, none⟩ = some (.int .i64 (fuel : Nat)) := (H5.out.keep hb7).cell (j := 0) rfl; have u1 : w7.cell? ⟨PB, 1, none⟩ = some (.slice A acc.length cap) := (H5.out.keep hb7).cell (j := 1) rfl; have s9 : w7.cell? ⟨w.heap.size, 1, none⟩ = some (.slice none 0 0) := (H2.out.keep hb7).cell (j := 1) rfl; clear hb7)
      generalize hw9 : World.setCell _ _ _ = w9
      obtain ⟨hD9, hfin⟩ := HEND.out w7 w9 _ _ _ _ _ _ HB7.out hw9.symm HPO.out
      refine ⟨by simp, .inl ⟨_, _, rfl, run_takeDeferred hD9, ?_⟩⟩
      exact hfin _ rfl rfl rfl
    have HER2 := Lib.hid c1
    have b1 : (er == 56) = false := by rw [beq_eq_false_iff_ne]; exact c1
    clear c1
    by_cases c2 : er = 50
    · subst c2
      have HPO : Hid (∀ w', RowI w' w.heap.size (.slice A acc.length cap) acc → Below w.heap.size w w' → ParseOut w text (.returned (.tuple #[.agg #[.int .i64 0, .slice none 0 0], .int .i64 50, .int .i64 ((0 : Nat) : Int)])) w') := Lib.hid fun w' _ hb => by
        have e := HCR.out.trans ((if_neg (by decide)).trans ((if_neg (by decide)).trans (if_pos rfl)))
        unfold ParseOut
        rw [e]
        exact ⟨⟨none, 0, rfl, rowI_nil _ _, fun x hx => by cases hx⟩, hb⟩
      clear b0 b1
      gi_wp2_with (refine ⟨trivial, ?_⟩; gi_at_call 66; refine (callsIn_wide.2 KCH.out).mono ?_; rintro _ w7 ⟨rfl, hb7⟩; have HB7 := Lib.hid hb7; obtain ⟨⟨s1, s2, s3, s4⟩, s5, s6, s7, s8⟩ := stop_facts (H2.out.keep hb7) (H3.out.keep hb7) (H4.out.keep hb7) HN.out.1 HN.out.2.1 HN.out.2.2.1; have u0 : w7.cell? ⟨PB, 0, none⟩ = some (.int .i64 (fuel : Nat)) := (H5.out.keep hb7).cell (j := 0) rfl; have u1 : w7.cell? ⟨PB, 1, none⟩ = some (.slice A acc.length cap) := (H5.out.keep hb7).cell (j := 1) rfl; have s9 : w7.cell? ⟨w.heap.size, 1, none⟩ = some (.slice none 0 0) := (H2.out.keep hb7).cell (j := 1) rfl; clear hb7)
      generalize hw9 : World.setCell _ _ _ = w9
      obtain ⟨hD9, hfin⟩ := HEND.out w7 w9 _ _ _ _ _ _ HB7.out hw9.symm HPO.out
      refine ⟨by simp, .inl ⟨_, _, rfl, run_takeDeferred hD9, ?_⟩⟩
      exact hfin _ rfl rfl rfl
    · have b2 : (er == 50) = false := by rw [beq_eq_false_iff_ne]; exact c2
      have HPO : Hid (∀ w', RowI w' w.heap.size (.slice A acc.length cap) acc → Below w.heap.size w w' → ParseOut w text (.returned (.tuple #[.agg #[.int .i64 0, .slice none 0 0], .int .i64 er, .int .i64 ((at_ + 2 : Nat) : Int)])) w') := Lib.hid fun w' _ hb => by
        have e := HCR.out.trans ((if_neg HER.out).trans ((if_neg HER2.out).trans (if_neg c2)))
        unfold ParseOut
        rw [e]
        exact ⟨⟨none, 0, rfl, rowI_nil _ _, fun x hx => by cases hx⟩, hb⟩
      clear c2
      gi_wp2_with (refine ⟨trivial, ?_⟩; gi_at_call 66; refine (callsIn_wide.2 KCH.out).mono ?_; rintro _ w7 ⟨rfl, hb7⟩; have HB7 := Lib.hid hb7; obtain ⟨⟨s1, s2, s3, s4⟩, s5, s6, s7, s8⟩ := stop_facts (H2.out.keep hb7) (H3.out.keep hb7) (H4.out.keep hb7) HN.out.1 HN.out.2.1 HN.out.2.2.1; have u0 : w7.cell? ⟨PB, 0, none⟩ = some (.int .i64 (fuel : Nat)) := (H5.out.keep hb7).cell (j := 0) rfl; have u1 : w7.cell? ⟨PB, 1, none⟩ = some (.slice A acc.length cap) := (H5.out.keep hb7).cell (j := 1) rfl; have s9 : w7.cell? ⟨w.heap.size, 1, none⟩ = some (.slice none 0 0) := (H2.out.keep hb7).cell (j := 1) rfl; clear hb7)
      generalize hw9 : World.setCell _ _ _ = w9
      obtain ⟨hD9, hfin⟩ := HEND.out w7 w9 _ _ _ _ _ _ HB7.out hw9.symm HPO.out
      refine ⟨by simp, .inl ⟨_, _, rfl, run_takeDeferred hD9, ?_⟩⟩
      exact hfin _ rfl rfl rfl
  case stop =>
    rintro D pre W hD hpre ⟨hlv, k2, k3, k4, k8⟩ hK
    obtain ⟨rest, hrest⟩ := hpre
    have hres : parseT text = (55, pre.length, 0, []) := by
      rw [parseT_yl, ← hrest]
      exact hlv rest
    have HR := Lib.hid hres
    clear g2 g3 g4 g5 g6 g7 g7' gB
    have hn : w.heap.size ≤ w5.heap.size := by omega
    clear q3 q4 q5 q6 q7 q8 hres hrest hlv
    gi_wp2
    refine ⟨by simp, .inl ⟨_, _, rfl, run_takeDeferred hK, ?_⟩⟩
    refine ⟨_, results_parse (cells_kept k2 (grownBy_putObj' _ D _) (fun r e => by cases e; exact ⟨_, hK, rfl⟩)) (cells_kept k3 (grownBy_putObj' _ D _) (fun r e => by cases e; exact ⟨_, hK, rfl⟩)) (cells_kept k4 (grownBy_putObj' _ D _) (fun r e => by cases e; exact ⟨_, hK, rfl⟩)) rfl rfl rfl, ?_⟩
    unfold ParseOut
    rw [HR.out]
    exact ⟨⟨none, 0, rfl, rowI_nil _ _, fun x hx => by cases hx⟩, k8.trans (belowK_b (w := w5) hn W D _ _ hD hK rfl rfl)⟩
end Go.Proofs.YtdkencepmdfacaaGreatDoor
