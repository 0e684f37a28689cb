/- A block that is known whole: its cells, and what leaves it as it was. wire.named: a message with just the fields that its kind names. Messages compared. -/
import Derived.Test.YtpnfdmglhonkmaaPk
import Derived.Test.YtpnfdmglhonkmaaPl
import Derived.WalkLawsBesides
set_option maxRecDepth 100000
namespace Go.Proofs.Ytpnfdmglhonkmaa
open Go.RowKit

def Cells (w : World) (g : Nat) (t : TypeId) (c : Array Value) : Prop := w.heap[g]? = some (.cells c t (0, 0))

section
variable {w w' : World} {g : Nat} {t : TypeId} {c : Array Value}
theorem Cells.lt (h : Cells w g t c) : g < w.heap.size := lt_of_block h
theorem Cells.cell (h : Cells w g t c) {j : Nat} {v : Value} (hj : c[j]? = some v) : w.cell? ⟨g, j, none⟩ = some v := by
  unfold Cells at h
  simp [World.cell?, h, hj]
theorem Cells.fz (h : Cells w g t c) (j : Nat) : w.frozen? ⟨g, j, none⟩ = false := by
  unfold Cells at h
  simp [World.frozen?, h]
theorem Cells.set (h : Cells w g t c) (j : Nat) (v : Value) : Cells (w.setCell ⟨g, j, none⟩ v) g t (c.setIfInBounds j v) := by
  unfold Cells at h ⊢
  simp [World.setCell, Array.getElem?_modify, h]
theorem Cells.far (h : Cells w g t c) {a : Addr} (ha : g ≠ a.block) (u : Value) : Cells (w.setCell a u) g t c := (Below.heap_setCell w a u g ha).trans h
theorem Cells.alloc (h : Cells w g t c) (o : Obj) : Cells (w.alloc o) g t c := (Below.heap_alloc w o g h.lt).trans h
theorem Cells.grown {row : Option Nat} (h : Cells w g t c) (hb : w.grownBy w' row) (hg : some g ≠ row) : Cells w' g t c := (hb.block g h.lt hg).trans h
theorem Cells.below {k : Nat} (h : Cells w g t c) (hb : Below k w w') (hg : g < k) : Cells w' g t c := (hb.block g hg).trans h
theorem Cells.keep (h : Cells w g t c) (hb : Below w.heap.size w w') : Cells w' g t c := (hb.block g h.lt).trans h
theorem Cells.drewN (h : Cells w g t c) (n : Nat) : Cells (w.drewN n) g t c := h
theorem Cells.drew (h : Cells w g t c) : Cells w.drew g t c := h
theorem Cells.new (w : World) (t : TypeId) (c : Array Value) : Cells (w.alloc (.cells c t)) w.heap.size t c := heap_alloc_new w _
theorem Cells.setRow (h : Cells w g t c) (c' : Array Value) : Cells (w.setRow g c') g t c' := by
  unfold Cells at h ⊢
  simp [World.setRow, Array.getElem?_modify, h]
theorem grown_setRow (h : Cells w g t c) (c' : Array Value) : w.grownBy (w.setRow g c') (some g) :=
  ⟨rfl, rfl, rfl, by simp [World.setRow], fun i _ hne => by
    have hgi : ¬ g = i := fun e => hne (by rw [e])
    simp [World.setRow, Array.getElem?_modify, hgi]⟩
theorem Cells.newAt (w : World) (t : TypeId) (c : Array Value) (n : Nat) (h : n = w.heap.size) : Cells (w.alloc (.cells c t)) n t c := by
  subst h
  exact Cells.new w t c

theorem Cells.ne {g' : Nat} {t' : TypeId} {c' : Array Value} (h : Cells w g t c) (h' : Cells w g' t' c') (hne : t ≠ t') : g ≠ g' := by
  rintro rfl
  unfold Cells at h h'
  rw [h] at h'
  injection h' with h'
  injection h' with _ ht
  exact hne ht
theorem Cells.turns {S : List Nat} (h : Cells w g t c) (hb : Turns S w w') (hg : g ∉ S) : Cells w' g t c := hb.keep h hg
end

theorem cell_grown {w w' : World} {g : Nat} {x : Addr} {v : Value} (hg : w.grownBy w' (some g)) (hv : w.cell? x = some v) (hne : x.block ≠ g) : w'.cell? x = some v := by
  have hb := hg.block x.block (World.block_lt_of_cell? w x hv) (by intro he; injection he with he; exact hne he)
  unfold World.cell? at hv ⊢
  rw [hb]
  exact hv

/-- the blocks from lo to hi are as they were -/
def Kept (lo hi : Nat) (w w' : World) : Prop := ∀ k, lo ≤ k → k < hi → w'.heap[k]? = w.heap[k]?
theorem Kept.refl (lo hi : Nat) (w : World) : Kept lo hi w w := fun _ _ _ => rfl
theorem Kept.trans {lo hi : Nat} {a b c : World} (h : Kept lo hi a b) (k : Kept lo hi b c) : Kept lo hi a c := fun i h1 h2 => (k i h1 h2).trans (h i h1 h2)
theorem Kept.of_grown {lo hi : Nat} {w w' : World} {row : Option Nat} (h : w.grownBy w' row) (hs : hi ≤ w.heap.size) (hr : ∀ g, row = some g → g < lo ∨ hi ≤ g) : Kept lo hi w w' := fun k h1 h2 =>
  h.block k (by omega) fun e => by
    rcases hr k e.symm with h | h <;> omega
theorem Kept.of_below {lo hi : Nat} {w w' : World} (h : Below hi w w') : Kept lo hi w w' := fun k _ h2 => h.block k h2
theorem Kept.cells {lo hi : Nat} {w w' : World} {g : Nat} {t : TypeId} {c : Array Value} (h : Kept lo hi w w') (hc : Cells w g t c) (h1 : lo ≤ g) (h2 : g < hi) : Cells w' g t c := (h g h1 h2).trans hc
theorem Kept.turns {lo hi : Nat} {w w' : World} {S : List Nat} (h : Turns S w w') (hs : hi ≤ w.heap.size) (hS : ∀ g ∈ S, g < lo ∨ hi ≤ g) : Kept lo hi w w' := fun k h1 h2 =>
  h.block k (by omega) fun hm => by
    rcases hS k hm with h | h <;> omega
end Go.Proofs.Ytpnfdmglhonkmaa

namespace Go.Proofs.Ytpnfdmglhonkmaa
open Go.RowKit

def Ms (w : World) (g : Nat) (m : Mg) : Prop := Cells w g 61 m.cells

theorem Ms.all {w : World} {g : Nat} {m : Mg} (h : Ms w g m) : w.cell? ⟨g, 0, none⟩ = some (.int .i64 m.kind) ∧ w.cell? ⟨g, 1, none⟩ = some (.int .i64 m.sess) ∧ w.cell? ⟨g, 2, none⟩ = some (.int .i64 m.num) ∧ w.cell? ⟨g, 3, none⟩ = some (.int .i64 m.job) ∧ w.cell? ⟨g, 4, none⟩ = some (.int .i64 m.badge) ∧ w.cell? ⟨g, 5, none⟩ = some (.int .i64 m.idx) ∧ w.cell? ⟨g, 6, none⟩ = some (.int .i64 m.cnt) ∧ w.cell? ⟨g, 7, none⟩ = some (.int .i64 m.code) ∧ w.cell? ⟨g, 8, none⟩ = some (.int .u64 m.bits) ∧ w.cell? ⟨g, 9, none⟩ = some (.string m.text) ∧ w.cell? ⟨g, 10, none⟩ = some (.string m.prog) :=
  ⟨h.cell rfl, h.cell rfl, h.cell rfl, h.cell rfl, h.cell rfl, h.cell rfl, h.cell rfl, h.cell rfl, h.cell rfl, h.cell rfl, h.cell rfl⟩

set_option maxHeartbeats 1000000 in
theorem Ms.stored {w : World} {g : Nat} {Z : Mg} (hz : Ms w g Z) (M : Mg) : Ms (((((((((((w.setCell ⟨g, 0, none⟩ (.int .i64 M.kind)).setCell ⟨g, 1, none⟩ (.int .i64 M.sess)).setCell ⟨g, 2, none⟩ (.int .i64 M.num)).setCell ⟨g, 3, none⟩ (.int .i64 M.job)).setCell ⟨g, 4, none⟩ (.int .i64 M.badge)).setCell ⟨g, 5, none⟩ (.int .i64 M.idx)).setCell ⟨g, 6, none⟩ (.int .i64 M.cnt)).setCell ⟨g, 7, none⟩ (.int .i64 M.code)).setCell ⟨g, 8, none⟩ (.int .u64 M.bits)).setCell ⟨g, 9, none⟩ (.string M.text)).setCell ⟨g, 10, none⟩ (.string M.prog)) g M := by
  unfold Ms at hz
  have h := (((((((((((hz.set 0 (.int .i64 M.kind)).set 1 (.int .i64 M.sess)).set 2 (.int .i64 M.num)).set 3 (.int .i64 M.job)).set 4 (.int .i64 M.badge)).set 5 (.int .i64 M.idx)).set 6 (.int .i64 M.cnt)).set 7 (.int .i64 M.code)).set 8 (.int .u64 M.bits)).set 9 (.string M.text)).set 10 (.string M.prog))
  have e : (((((((((((Z.cells.setIfInBounds 0 (.int .i64 M.kind)).setIfInBounds 1 (.int .i64 M.sess)).setIfInBounds 2 (.int .i64 M.num)).setIfInBounds 3 (.int .i64 M.job)).setIfInBounds 4 (.int .i64 M.badge)).setIfInBounds 5 (.int .i64 M.idx)).setIfInBounds 6 (.int .i64 M.cnt)).setIfInBounds 7 (.int .i64 M.code)).setIfInBounds 8 (.int .u64 M.bits)).setIfInBounds 9 (.string M.text)).setIfInBounds 10 (.string M.prog)) = M.cells := by simp [Mg.cells]
  rw [e] at h
  exact h

def SetPost (gn : Nat) (n' : Mg) (w : World) (x : Ending) (w' : World) : Prop := x = .returned (.tuple #[]) ∧ Ms w' gn n' ∧ w.grownBy w' (some gn)

set_option maxHeartbeats 400000 in
theorem named1_any (gn gm : Nat) (m n : Mg) (w : World) (hm : Ms w gm m) (hn : Ms w gn n) :
    Calls Try.prog 73 #[.pointer (some ⟨gn, 0, none⟩), .pointer (some ⟨gm, 0, none⟩)] w (SetPost gn (m.with1 n 115) w) := by
  have c1 : w.cell? ⟨gm, 1, none⟩ = some (m.cells[1]) := hm.cell rfl
  have d1 := hn.cell (j := 1) rfl
  have f1 := hn.fz 1
  go_enter Try.func73, Try.ntmps73
  go_wp2
  go_end0
  exact ⟨rfl, (hn.set 1 _), only_set (only_refl _ _) (.inl rfl) _⟩

set_option maxHeartbeats 400000 in
theorem named2_any (gn gm : Nat) (m n : Mg) (w : World) (hm : Ms w gm m) (hn : Ms w gn n) :
    Calls Try.prog 74 #[.pointer (some ⟨gn, 0, none⟩), .pointer (some ⟨gm, 0, none⟩)] w (SetPost gn (m.with1 n 110) w) := by
  have c2 : w.cell? ⟨gm, 2, none⟩ = some (m.cells[2]) := hm.cell rfl
  have d2 := hn.cell (j := 2) rfl
  have f2 := hn.fz 2
  go_enter Try.func74, Try.ntmps74
  go_wp2
  go_end0
  exact ⟨rfl, (hn.set 2 _), only_set (only_refl _ _) (.inl rfl) _⟩

set_option maxHeartbeats 400000 in
theorem named3_any (gn gm : Nat) (m n : Mg) (w : World) (hm : Ms w gm m) (hn : Ms w gn n) :
    Calls Try.prog 75 #[.pointer (some ⟨gn, 0, none⟩), .pointer (some ⟨gm, 0, none⟩)] w (SetPost gn (m.with1 n 106) w) := by
  have c3 : w.cell? ⟨gm, 3, none⟩ = some (m.cells[3]) := hm.cell rfl
  have d3 := hn.cell (j := 3) rfl
  have f3 := hn.fz 3
  go_enter Try.func75, Try.ntmps75
  go_wp2
  go_end0
  exact ⟨rfl, (hn.set 3 _), only_set (only_refl _ _) (.inl rfl) _⟩

set_option maxHeartbeats 400000 in
theorem named4_any (gn gm : Nat) (m n : Mg) (w : World) (hm : Ms w gm m) (hn : Ms w gn n) :
    Calls Try.prog 76 #[.pointer (some ⟨gn, 0, none⟩), .pointer (some ⟨gm, 0, none⟩)] w (SetPost gn (m.with1 n 98) w) := by
  have c4 : w.cell? ⟨gm, 4, none⟩ = some (m.cells[4]) := hm.cell rfl
  have d4 := hn.cell (j := 4) rfl
  have f4 := hn.fz 4
  go_enter Try.func76, Try.ntmps76
  go_wp2
  go_end0
  exact ⟨rfl, (hn.set 4 _), only_set (only_refl _ _) (.inl rfl) _⟩

set_option maxHeartbeats 400000 in
theorem named5_any (gn gm : Nat) (m n : Mg) (w : World) (hm : Ms w gm m) (hn : Ms w gn n) :
    Calls Try.prog 77 #[.pointer (some ⟨gn, 0, none⟩), .pointer (some ⟨gm, 0, none⟩)] w (SetPost gn (m.with1 n 105) w) := by
  have c5 : w.cell? ⟨gm, 5, none⟩ = some (m.cells[5]) := hm.cell rfl
  have d5 := hn.cell (j := 5) rfl
  have f5 := hn.fz 5
  go_enter Try.func77, Try.ntmps77
  go_wp2
  go_end0
  exact ⟨rfl, (hn.set 5 _), only_set (only_refl _ _) (.inl rfl) _⟩

set_option maxHeartbeats 400000 in
theorem named6_any (gn gm : Nat) (m n : Mg) (w : World) (hm : Ms w gm m) (hn : Ms w gn n) :
    Calls Try.prog 78 #[.pointer (some ⟨gn, 0, none⟩), .pointer (some ⟨gm, 0, none⟩)] w (SetPost gn (m.with1 n 99) w) := by
  have c6 : w.cell? ⟨gm, 6, none⟩ = some (m.cells[6]) := hm.cell rfl
  have d6 := hn.cell (j := 6) rfl
  have f6 := hn.fz 6
  go_enter Try.func78, Try.ntmps78
  go_wp2
  go_end0
  exact ⟨rfl, (hn.set 6 _), only_set (only_refl _ _) (.inl rfl) _⟩

set_option maxHeartbeats 400000 in
theorem named7_any (gn gm : Nat) (m n : Mg) (w : World) (hm : Ms w gm m) (hn : Ms w gn n) :
    Calls Try.prog 79 #[.pointer (some ⟨gn, 0, none⟩), .pointer (some ⟨gm, 0, none⟩)] w (SetPost gn (m.with1 n 114) w) := by
  have c7 : w.cell? ⟨gm, 7, none⟩ = some (m.cells[7]) := hm.cell rfl
  have d7 := hn.cell (j := 7) rfl
  have f7 := hn.fz 7
  have c8 : w.cell? ⟨gm, 8, none⟩ = some (m.cells[8]) := hm.cell rfl
  have d8 := hn.cell (j := 8) rfl
  have f8 := hn.fz 8
  go_enter Try.func79, Try.ntmps79
  go_wp2
  go_end0
  have h := (hn.set 7 (.int .i64 m.code)).set 8 (.int .u64 m.bits)
  exact ⟨rfl, by simpa [Ms, Mg.with1] using h, by (refine only_set ?_ (.inl rfl) _); exact only_set (only_refl _ _) (.inl rfl) _⟩

set_option maxHeartbeats 400000 in
theorem named8_any (gn gm : Nat) (m n : Mg) (w : World) (hm : Ms w gm m) (hn : Ms w gn n) :
    Calls Try.prog 80 #[.pointer (some ⟨gn, 0, none⟩), .pointer (some ⟨gm, 0, none⟩)] w (SetPost gn (m.with1 n 116) w) := by
  have c9 : w.cell? ⟨gm, 9, none⟩ = some (m.cells[9]) := hm.cell rfl
  have d9 := hn.cell (j := 9) rfl
  have f9 := hn.fz 9
  go_enter Try.func80, Try.ntmps80
  go_wp2
  go_end0
  exact ⟨rfl, (hn.set 9 _), only_set (only_refl _ _) (.inl rfl) _⟩

set_option maxHeartbeats 400000 in
theorem named9_any (gn gm : Nat) (m n : Mg) (w : World) (hm : Ms w gm m) (hn : Ms w gn n) :
    Calls Try.prog 81 #[.pointer (some ⟨gn, 0, none⟩), .pointer (some ⟨gm, 0, none⟩)] w (SetPost gn (m.with1 n 112) w) := by
  have c10 : w.cell? ⟨gm, 10, none⟩ = some (m.cells[10]) := hm.cell rfl
  have d10 := hn.cell (j := 10) rfl
  have f10 := hn.fz 10
  go_enter Try.func81, Try.ntmps81
  go_wp2
  go_end0
  exact ⟨rfl, (hn.set 10 _), only_set (only_refl _ _) (.inl rfl) _⟩

-- NAMED
end Go.Proofs.Ytpnfdmglhonkmaa

namespace Go.Proofs.Ytpnfdmglhonkmaa
open Go.RowKit

theorem bytes_inj {a b : ByteArray} (h : a.toList = b.toList) : a = b := by
  rw [ByteArray.toList_eq, ByteArray.toList_eq] at h
  exact ByteArray.ext (Array.toList_inj.1 h)

theorem empty_list : (⟨#[]⟩ : ByteArray).toList = [] := by rw [ByteArray.toList_eq]

theorem msg_eql (m n : Mg) (w : World) : (binOp .eql 61 m.val n.val).run Try.prog w = .ok (.bool (decide (m = n))) w := by
  simp [go_sem]
  by_cases h : m = n
  · subst h
    simp
  · rw [decide_eq_false h]
    repeat' split
    all_goals first | rfl | skip
    exfalso
    apply h
    cases m
    cases n
    simp only at *
    simp only [Mg.mk.injEq]
    refine ⟨?_, ?_, ?_, ?_, ?_, ?_, ?_, ?_, ?_, bytes_inj ?_, bytes_inj ?_⟩ <;> assumption
end Go.Proofs.Ytpnfdmglhonkmaa
