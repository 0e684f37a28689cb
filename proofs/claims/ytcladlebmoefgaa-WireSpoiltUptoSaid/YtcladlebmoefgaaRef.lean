/- gafferref02.Reader: the reference's reader, an element of a slice of the call's own. -/
import Derived.Test.YtcladlebmoefgaaMeth
namespace Go.Proofs.Ytcladlebmoefgaa
open Go.RowKit

/-- the reference's reader in memory, at place off of block g -/
def Ref (w : World) (g off : Nat) (b : ByteArray) (p : Nat) (e a : Int) : Prop :=
  ∃ cur E, w.heap[g]? = some (.cells cur E (0, 0)) ∧ cur[off]? = some (.string b) ∧ cur[off + 1]? = some (.int .i64 (p : Int)) ∧ cur[off + 2]? = some (.int .i64 e) ∧ cur[off + 3]? = some (.int .i64 a)

/-- of block g only the four cells from off on have turned, of the rest nothing -/
def Only4 (w w' : World) (g off : Nat) : Prop :=
  w.grownBy w' (some g) ∧ ∀ cur E, w.heap[g]? = some (.cells cur E (0, 0)) → ∃ cur', w'.heap[g]? = some (.cells cur' E (0, 0)) ∧ cur'.size = cur.size ∧ ∀ j : Nat, j < off ∨ off + 4 ≤ j → cur'[j]? = cur[j]?

section
variable {w w' w'' : World} {g off : Nat} {b : ByteArray} {p : Nat} {e a : Int}
theorem Ref.c0 (h : Ref w g off b p e a) : w.cell? ⟨g, off, none⟩ = some (.string b) := by obtain ⟨cur, E, hh, h0, _⟩ := h; simp [World.cell?, hh, h0]
theorem Ref.c1 (h : Ref w g off b p e a) : w.cell? ⟨g, off + 1, none⟩ = some (.int .i64 (p : Int)) := by obtain ⟨cur, E, hh, _, h1, _⟩ := h; simp [World.cell?, hh, h1]
theorem Ref.c2 (h : Ref w g off b p e a) : w.cell? ⟨g, off + 2, none⟩ = some (.int .i64 e) := by obtain ⟨cur, E, hh, _, _, h2, _⟩ := h; simp [World.cell?, hh, h2]
theorem Ref.c3 (h : Ref w g off b p e a) : w.cell? ⟨g, off + 3, none⟩ = some (.int .i64 a) := by obtain ⟨cur, E, hh, _, _, _, h3⟩ := h; simp [World.cell?, hh, h3]
theorem Ref.fz (h : Ref w g off b p e a) (i : Nat) : w.frozen? ⟨g, i, none⟩ = false := by obtain ⟨cur, E, hh, _⟩ := h; simp [World.frozen?, hh]
theorem Ref.lt (h : Ref w g off b p e a) : g < w.heap.size := by obtain ⟨cur, E, hh, _⟩ := h; exact lt_of_block hh
theorem Ref.drewN (h : Ref w g off b p e a) (n : Nat) : Ref (w.drewN n) g off b p e a := h
theorem Ref.drew (h : Ref w g off b p e a) : Ref w.drew g off b p e a := h
theorem Ref.set1 (h : Ref w g off b p e a) (q : Nat) : Ref (w.setCell ⟨g, off + 1, none⟩ (.int .i64 (q : Int))) g off b q e a := by
  obtain ⟨cur, E, hh, h0, h1, h2, h3⟩ := h
  have hs := (Array.getElem?_eq_some_iff.1 h3).1
  exact ⟨cur.setIfInBounds (off + 1) (.int .i64 (q : Int)), E, by simp [World.setCell, Array.getElem?_modify, hh], by rw [Array.getElem?_setIfInBounds_ne (by omega)]; exact h0, by rw [Array.getElem?_setIfInBounds_self_of_lt (by omega)], by rw [Array.getElem?_setIfInBounds_ne (by omega)]; exact h2, by rw [Array.getElem?_setIfInBounds_ne (by omega)]; exact h3⟩
theorem Ref.set2 (h : Ref w g off b p e a) (f : Int) : Ref (w.setCell ⟨g, off + 2, none⟩ (.int .i64 f)) g off b p f a := by
  obtain ⟨cur, E, hh, h0, h1, h2, h3⟩ := h
  have hs := (Array.getElem?_eq_some_iff.1 h3).1
  exact ⟨cur.setIfInBounds (off + 2) (.int .i64 f), E, by simp [World.setCell, Array.getElem?_modify, hh], by rw [Array.getElem?_setIfInBounds_ne (by omega)]; exact h0, by rw [Array.getElem?_setIfInBounds_ne (by omega)]; exact h1, by rw [Array.getElem?_setIfInBounds_self_of_lt (by omega)], by rw [Array.getElem?_setIfInBounds_ne (by omega)]; exact h3⟩
theorem Ref.set3 (h : Ref w g off b p e a) (f : Int) : Ref (w.setCell ⟨g, off + 3, none⟩ (.int .i64 f)) g off b p e f := by
  obtain ⟨cur, E, hh, h0, h1, h2, h3⟩ := h
  have hs := (Array.getElem?_eq_some_iff.1 h3).1
  exact ⟨cur.setIfInBounds (off + 3) (.int .i64 f), E, by simp [World.setCell, Array.getElem?_modify, hh], by rw [Array.getElem?_setIfInBounds_ne (by omega)]; exact h0, by rw [Array.getElem?_setIfInBounds_ne (by omega)]; exact h1, by rw [Array.getElem?_setIfInBounds_ne (by omega)]; exact h2, by rw [Array.getElem?_setIfInBounds_self_of_lt (by omega)]⟩

theorem only4_refl (w : World) (g off : Nat) : Only4 w w g off := ⟨only_refl _ _, fun cur _ h => ⟨cur, h, rfl, fun _ _ => rfl⟩⟩
theorem only4_drewN (h : Only4 w w' g off) (n : Nat) : Only4 w (w'.drewN n) g off := ⟨only_drewN h.1 n, h.2⟩
theorem only4_trans (h : Only4 w w' g off) (k : Only4 w' w'' g off) : Only4 w w'' g off :=
  ⟨only_trans h.1 k.1, fun cur E hh => by
    obtain ⟨c1, h1, s1, e1⟩ := h.2 cur E hh
    obtain ⟨c2, h2, s2, e2⟩ := k.2 c1 E h1
    exact ⟨c2, h2, s2.trans s1, fun j hj => (e2 j hj).trans (e1 j hj)⟩⟩
theorem only4_set (h : Only4 w w' g off) {i : Nat} (hi : off ≤ i ∧ i < off + 4) (u : Value) : Only4 w (w'.setCell ⟨g, i, none⟩ u) g off :=
  ⟨only_set h.1 (.inl rfl) u, fun cur E hh => by
    obtain ⟨c1, h1, s1, e1⟩ := h.2 cur E hh
    exact ⟨c1.setIfInBounds i u, by simp [World.setCell, Array.getElem?_modify, h1], by simp [s1], fun j hj => by rw [Array.getElem?_setIfInBounds_ne (by omega)]; exact e1 j hj⟩⟩
end

/-- where a fault stands -/
def fa (f : Int) (q : Nat) : Int := if f = 0 then 0 else (q : Int)

def RefPost {V : Type} (mk : V → Value) (g off : Nat) (b : ByteArray) (r : V × Nat × Int) (w : World) (x : Ending) (w' : World) : Prop :=
  x = .returned (mk r.1) ∧ Ref w' g off b r.2.1 r.2.2 (fa r.2.2 r.2.1) ∧ Only4 w w' g off

set_option maxHeartbeats 1000000 in
theorem wrong_any (g off : Nat) (b : ByteArray) (p : Nat) (c : Int) (w : World) (hR : Ref w g off b p 0 0) (hc : c ≠ 0) :
    Calls Try.prog 63 #[.pointer (some ⟨g, off, none⟩), .int .i64 c] w fun x w' => x = .returned (.tuple #[]) ∧ Ref w' g off b p c (fa c p) ∧ Only4 w w' g off := by
  have h1 := hR.c1
  have h2 := hR.c2
  have h3 := hR.c3
  have f2 := hR.fz (off + 2)
  have f3 := hR.fz (off + 3)
  go_enter Try.func63, Try.ntmps63
  go_wp2
  refine bodyPost_end (results_none rfl _ _ _) rfl ?_
  refine ⟨rfl, ?_, ?_⟩
  · have h := ((hR.set2 c).set3 (p : Int))
    rw [show fa c p = (p : Int) from if_neg hc]
    exact h
  · exact only4_set (only4_set (only4_refl _ _ _) ⟨by omega, by omega⟩ _) ⟨by omega, by omega⟩ _
end Go.Proofs.Ytcladlebmoefgaa
