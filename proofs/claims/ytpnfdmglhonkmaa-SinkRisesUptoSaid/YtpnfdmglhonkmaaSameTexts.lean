/- gafferref16.SameTexts, at two lists that are one. -/
import Derived.BigQuiet
import Derived.Test.YtpnfdmglhonkmaaSnk
set_option maxRecDepth 100000
namespace Go.Proofs.Ytpnfdmglhonkmaa
open Go.RowKit Go.Maps

set_option maxHeartbeats 1000000 in
theorem sameTexts_any {v v' : Value} {l : List ByteArray} (w : World) (h : Strs w v l) (h' : Strs w v' l) (hl : l.length < 1073741824) :
    Calls Try.prog 12 #[v, v'] w fun e w' => e = .returned (.bool true) ∧ ∃ n, w' = w.drewN n := by
  obtain ⟨A, cap, rfl, hc⟩ : ∃ A cap, v = .slice A l.length cap ∧ ∀ k, k < l.length → ∀ n, ∃ g, A = some ⟨g, 0, none⟩ ∧ (w.drewN n).cell? ⟨g, k, none⟩ = some (.string (l.getD k ⟨#[]⟩)) := by
    rcases own_shape h with ⟨rfl, hn⟩ | ⟨g, cap, rfl, _⟩
    · exact ⟨none, 0, by rw [hn], fun k hk => by omega⟩
    · refine ⟨_, cap, rfl, fun k hk n => ⟨g, rfl, ?_⟩⟩
      have := h.cellAt k (by omega)
      rw [show (w.drewN n).cell? ⟨g, k, none⟩ = w.cell? ⟨g, k, none⟩ from rfl, this]
      simp [hk]
  obtain ⟨A', cap', rfl, hc'⟩ : ∃ A cap, v' = .slice A l.length cap ∧ ∀ k, k < l.length → ∀ n, ∃ g, A = some ⟨g, 0, none⟩ ∧ (w.drewN n).cell? ⟨g, k, none⟩ = some (.string (l.getD k ⟨#[]⟩)) := by
    rcases own_shape h' with ⟨rfl, hn⟩ | ⟨g, cap, rfl, _⟩
    · exact ⟨none, 0, by rw [hn], fun k hk => by omega⟩
    · refine ⟨_, cap, rfl, fun k hk n => ⟨g, rfl, ?_⟩⟩
      have := h'.cellAt k (by omega)
      rw [show (w.drewN n).cell? ⟨g, k, none⟩ = w.cell? ⟨g, k, none⟩ from rfl, this]
      simp [hk]
  have HC := Lib.hid hc
  have HC' := Lib.hid hc'
  clear hc hc' h h'
  generalize l.length = n at *
  go_enter Try.func12, Try.ntmps12
  go_wp2
  go_loopw [5] (fun i wr => ∃ k m : Nat, k ≤ n ∧ i = .int .i64 (k : Int) ∧ wr = w.drewN m) (fun i _ => n - (intOf i).toNat)
  case atStart => exact ⟨0, 0, Nat.zero_le _, rfl, rfl⟩
  case round =>
    obtain ⟨k, m, hk, rfl, rfl⟩ := hrel
    by_cases hlt : k < n
    · obtain ⟨g, rfl, c1⟩ := HC.out k hlt m
      obtain ⟨g', rfl, c2⟩ := HC'.out k hlt m
      generalize l.getD k ⟨#[]⟩ = x at c1 c2
      have hi0 : (0 : Int) ≤ (k : Int) := by omega
      have hi1 : (k : Int) < (n : Int) := by omega
      generalize hwz : w.drewN m = wz at c1 c2 ⊢
      go_wp2
      go_quiet (fail)
      go_wp2
      go_roundw
      case rel => exact ⟨k + 1, _, by omega, by go_num, by rw [← hwz]; first | rfl | (rw [World.drewN_drewN])⟩
      case measure => simp [intOf]; omega
    · have hi1 : (n : Int) ≤ (k : Int) := by omega
      go_wp2
      go_ret
      exact ⟨rfl, _, rfl⟩
end Go.Proofs.Ytpnfdmglhonkmaa
