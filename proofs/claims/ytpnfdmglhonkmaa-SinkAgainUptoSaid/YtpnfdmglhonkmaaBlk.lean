/- A block that is known whole: its cells, and what leaves it as it was. -/
import Derived.Test.YtpnfdmglhonkmaaBase
import Derived.Test.YtpnfdmglhonkmaaTypes
set_option maxRecDepth 100000
namespace Go.Proofs.Ytpnfdmglhonkmaa
open Go.RowKit

def Cells (w : World) (g : Nat) (t : TypeId) (c : Array Value) : Prop := w.heap[g]? = some (.cells c t (0, 0))

section
variable {w w' : World} {g : Nat} {t : TypeId} {c : Array Value}
theorem Cells.lt (h : Cells w g t c) : g < w.heap.size := lt_of_block h
theorem Cells.cell (h : Cells w g t c) {j : Nat} {v : Value} (hj : c[j]? = some v) : w.cell? ⟨g, j, none⟩ = some v := by
  unfold Cells at h
  simp [World.cell?, h, hj]
theorem Cells.fz (h : Cells w g t c) (j : Nat) : w.frozen? ⟨g, j, none⟩ = false := by
  unfold Cells at h
  simp [World.frozen?, h]
theorem Cells.set (h : Cells w g t c) (j : Nat) (v : Value) : Cells (w.setCell ⟨g, j, none⟩ v) g t (c.setIfInBounds j v) := by
  unfold Cells at h ⊢
  simp [World.setCell, Array.getElem?_modify, h]
theorem Cells.far (h : Cells w g t c) {a : Addr} (ha : g ≠ a.block) (u : Value) : Cells (w.setCell a u) g t c := (Below.heap_setCell w a u g ha).trans h
theorem Cells.alloc (h : Cells w g t c) (o : Obj) : Cells (w.alloc o) g t c := (Below.heap_alloc w o g h.lt).trans h
theorem Cells.grown {row : Option Nat} (h : Cells w g t c) (hb : w.grownBy w' row) (hg : some g ≠ row) : Cells w' g t c := (hb.block g h.lt hg).trans h
theorem Cells.below {k : Nat} (h : Cells w g t c) (hb : Below k w w') (hg : g < k) : Cells w' g t c := (hb.block g hg).trans h
theorem Cells.keep (h : Cells w g t c) (hb : Below w.heap.size w w') : Cells w' g t c := (hb.block g h.lt).trans h
theorem Cells.drewN (h : Cells w g t c) (n : Nat) : Cells (w.drewN n) g t c := h
theorem Cells.drew (h : Cells w g t c) : Cells w.drew g t c := h
theorem Cells.new (w : World) (t : TypeId) (c : Array Value) : Cells (w.alloc (.cells c t)) w.heap.size t c := heap_alloc_new w _
theorem Cells.setRow (h : Cells w g t c) (c' : Array Value) : Cells (w.setRow g c') g t c' := by
  unfold Cells at h ⊢
  simp [World.setRow, Array.getElem?_modify, h]
theorem grown_setRow (h : Cells w g t c) (c' : Array Value) : w.grownBy (w.setRow g c') (some g) :=
  ⟨rfl, rfl, rfl, by simp [World.setRow], fun i _ hne => by
    have hgi : ¬ g = i := fun e => hne (by rw [e])
    simp [World.setRow, Array.getElem?_modify, hgi]⟩
theorem Cells.newAt (w : World) (t : TypeId) (c : Array Value) (n : Nat) (h : n = w.heap.size) : Cells (w.alloc (.cells c t)) n t c := by
  subst h
  exact Cells.new w t c

theorem Cells.ne {g' : Nat} {t' : TypeId} {c' : Array Value} (h : Cells w g t c) (h' : Cells w g' t' c') (hne : t ≠ t') : g ≠ g' := by
  rintro rfl
  unfold Cells at h h'
  rw [h] at h'
  injection h' with h'
  injection h' with _ ht
  exact hne ht
theorem Cells.turns {S : List Nat} (h : Cells w g t c) (hb : Turns S w w') (hg : g ∉ S) : Cells w' g t c := hb.keep h hg
end

theorem cell_grown {w w' : World} {g : Nat} {x : Addr} {v : Value} (hg : w.grownBy w' (some g)) (hv : w.cell? x = some v) (hne : x.block ≠ g) : w'.cell? x = some v := by
  have hb := hg.block x.block (World.block_lt_of_cell? w x hv) (by intro he; injection he with he; exact hne he)
  unfold World.cell? at hv ⊢
  rw [hb]
  exact hv

/-- the blocks from lo to hi are as they were -/
def Kept (lo hi : Nat) (w w' : World) : Prop := ∀ k, lo ≤ k → k < hi → w'.heap[k]? = w.heap[k]?
theorem Kept.refl (lo hi : Nat) (w : World) : Kept lo hi w w := fun _ _ _ => rfl
theorem Kept.trans {lo hi : Nat} {a b c : World} (h : Kept lo hi a b) (k : Kept lo hi b c) : Kept lo hi a c := fun i h1 h2 => (k i h1 h2).trans (h i h1 h2)
theorem Kept.of_grown {lo hi : Nat} {w w' : World} {row : Option Nat} (h : w.grownBy w' row) (hs : hi ≤ w.heap.size) (hr : ∀ g, row = some g → g < lo ∨ hi ≤ g) : Kept lo hi w w' := fun k h1 h2 =>
  h.block k (by omega) fun e => by
    rcases hr k e.symm with h | h <;> omega
theorem Kept.of_below {lo hi : Nat} {w w' : World} (h : Below hi w w') : Kept lo hi w w' := fun k _ h2 => h.block k h2
theorem Kept.cells {lo hi : Nat} {w w' : World} {g : Nat} {t : TypeId} {c : Array Value} (h : Kept lo hi w w') (hc : Cells w g t c) (h1 : lo ≤ g) (h2 : g < hi) : Cells w' g t c := (h g h1 h2).trans hc
theorem Kept.turns {lo hi : Nat} {w w' : World} {S : List Nat} (h : Turns S w w') (hs : hi ≤ w.heap.size) (hS : ∀ g ∈ S, g < lo ∨ hi ≤ g) : Kept lo hi w w' := fun k h1 h2 =>
  h.block k (by omega) fun hm => by
    rcases hS k hm with h | h <;> omega
end Go.Proofs.Ytpnfdmglhonkmaa
