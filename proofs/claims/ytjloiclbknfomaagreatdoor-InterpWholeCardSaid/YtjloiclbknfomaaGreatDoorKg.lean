/- gafferref06.SameTexts and SameOutcome, gafferlaw06.begins, where they answer true. -/
import Derived.BigQuiet
import Derived.Test.YtjloiclbknfomaaGreatDoorKy
set_option maxRecDepth 100000
namespace Go.Proofs.YtjloiclbknfomaaGreatDoor
open Go.RowKit Ieee

/-- a slice that reads as these texts -/
def ReadsAs (w : World) (A : Option Addr) (l : List (List UInt8)) : Prop := ∀ k, k < l.length → ∃ g, A = some ⟨g, 0, none⟩ ∧ w.cell? ⟨g, k, none⟩ = some (.string ⟨(l.getD k []).toArray⟩)
theorem reads_of {w : World} {base : Nat} {A : Option Addr} {n cap : Nat} {l : List (List UInt8)} (h : TextsIn w base (.slice A n cap) l) : ReadsAs w A l := by
  intro k hk
  rcases own_shape h with ⟨_, hn⟩ | ⟨g, cap', hv, _⟩
  · omega
  · injection hv with hA hl hc
    subst hA hl hc
    refine ⟨g, rfl, ?_⟩
    have := World.ownsRow.cellAt h k (by omega)
    rw [this]
    simp [hk]
theorem reads_take {w : World} {A : Option Addr} {l r : List (List UInt8)} (h : ReadsAs w A (l ++ r)) : ReadsAs w A l := by
  intro k hk
  obtain ⟨g, hA, hc⟩ := h k (by simp; omega)
  refine ⟨g, hA, ?_⟩
  rw [hc]
  have e : (l ++ r).getD k [] = l.getD k [] := by rw [List.getD_eq_getElem?_getD, List.getD_eq_getElem?_getD, List.getElem?_append_left hk]
  rw [e]
theorem ReadsAs.keep {w w' : World} {A : Option Addr} {l : List (List UInt8)} (h : ReadsAs w A l) (hb : Below w.heap.size w w') : ReadsAs w' A l := fun k hk => by
  obtain ⟨g, hA, hc⟩ := h k hk
  exact ⟨g, hA, cell_keeps hb hc⟩

set_option maxHeartbeats 1000000 in
theorem sameTexts_any {A A' : Option Addr} {cap cap' : Nat} {l : List (List UInt8)} (w : World) (h : ReadsAs w A l) (h' : ReadsAs w A' l) (hl : l.length < 1073741824) :
    Calls Tryz.prog 18 #[.slice A l.length cap, .slice A' l.length cap'] w fun e w' => e = .returned (.bool true) ∧ ∃ n, w' = w.drewN n := by
  have hc : ∀ k, k < l.length → ∀ n, ∃ g, A = some ⟨g, 0, none⟩ ∧ (w.drewN n).cell? ⟨g, k, none⟩ = some (.string ⟨(l.getD k []).toArray⟩) := fun k hk n => h k hk
  have hc' : ∀ k, k < l.length → ∀ n, ∃ g, A' = some ⟨g, 0, none⟩ ∧ (w.drewN n).cell? ⟨g, k, none⟩ = some (.string ⟨(l.getD k []).toArray⟩) := fun k hk n => h' k hk
  have HC := Lib.hid hc
  have HC' := Lib.hid hc'
  clear hc hc' h h'
  generalize l.length = n at *
  go_enter Tryz.func18, Tryz.ntmps18
  go_wp2
  go_loopw [5] (fun i wr => ∃ k m : Nat, k ≤ n ∧ i = .int .i64 (k : Int) ∧ wr = w.drewN m) (fun i _ => n - (intOf i).toNat)
  case atStart => exact ⟨0, 0, Nat.zero_le _, rfl, rfl⟩
  case round =>
    obtain ⟨k, m, hk, rfl, rfl⟩ := hrel
    by_cases hlt : k < n
    · obtain ⟨g, rfl, c1⟩ := HC.out k hlt m
      obtain ⟨g', rfl, c2⟩ := HC'.out k hlt m
      generalize l.getD k [] = x at c1 c2
      have hi0 : (0 : Int) ≤ (k : Int) := by omega
      have hi1 : (k : Int) < (n : Int) := by omega
      generalize hwz : w.drewN m = wz at c1 c2 ⊢
      go_wp2
      go_quiet (fail)
      go_wp2
      go_roundw
      case rel => exact ⟨k + 1, _, by omega, by go_num, by rw [← hwz]; first | rfl | (rw [World.drewN_drewN])⟩
      case measure => simp [intOf]; omega
    · have hi1 : (n : Int) ≤ (k : Int) := by omega
      go_wp2
      go_ret
      exact ⟨rfl, _, rfl⟩


end Go.Proofs.YtjloiclbknfomaaGreatDoor
