/- The reference's Check answers what layer 7's says. -/
import Derived.Test.YtpnfdmglhonkmaaGreatRCheck
set_option maxRecDepth 100000
namespace Go.Proofs.YtpnfdmglhonkmaaGreat
open Go.RowKit

theorem empty_iff (b : ByteArray) : b = ⟨#[]⟩ ↔ (b.size : Int) = 0 := by
  constructor
  · rintro rfl
    rfl
  · intro h
    have h : b.data.size = 0 := by
      have : b.size = b.data.size := rfl
      omega
    exact ByteArray.ext (Array.eq_empty_of_size_eq_zero h)

theorem empty_iff' (b : ByteArray) : (⟨#[]⟩ : ByteArray) = b ↔ (b.size : Int) = 0 := by rw [eq_comm, empty_iff]

theorem bempty (b : ByteArray) : b = ByteArray.empty ↔ (b.size : Int) = 0 := empty_iff b

theorem eq_comm0 (x : Int) : (0 : Int) = x ↔ x = 0 := eq_comm

theorem canon_zero : canon 0 = 0 := by decide

set_option maxHeartbeats 4000000 in
theorem rcheck_eq (m : Mg) : m.rcheck = m.check := by
  unfold Mg.rcheck Mg.check
  by_cases hout : m.kind < 1 ∨ 16 < m.kind
  · rw [if_pos hout, if_pos hout]
  · rw [if_neg hout, if_neg hout]
    have key : (rok3 m && !rbad1 m && !rbad2 m) = true ↔ (m.named = m ∧ ¬ (m.kind = 6 ∧ m.idx = 0 ∧ m.text ≠ ⟨#[]⟩) ∧ (fieldsOf m.kind.toNat).all (fun f => f.may m) = true) := by
      obtain ⟨k, s, n, j, b, i, c, co, bi, t, p⟩ := m
      obtain ⟨K, rfl⟩ : ∃ K : Nat, k = K := ⟨k.toNat, by simp only at hout; omega⟩
      have h0 : K ≠ 0 := by simp only at hout; omega
      have h16 : K ≤ 16 := by simp only at hout; omega
      clear hout
      have hcz : bi = 0 → canon bi = 0 := fun h => by rw [h]; exact canon_zero
      have hts : (0 : Int) ≤ t.size := Int.natCast_nonneg _
      have hps : (0 : Int) ≤ p.size := Int.natCast_nonneg _
      unfold rok3 rok2 rok1 rbad1 rbad2
      rcases K with _|_|_|_|_|_|_|_|_|_|_|_|_|_|_|_|_|K
      all_goals first
        | omega
        | (simp [rright, rword, wordOf, rmost, Mg.named, Mg.with1, Mg.none, fieldsOf, Fd.may, Mg.int, Mg.str, empty_iff, empty_iff', eq_comm0]
           generalize canon bi = cb at *
           try simp only [bempty]
           omega)
    by_cases h : (rok3 m && !rbad1 m && !rbad2 m) = true
    · rw [if_pos h, if_pos (key.mp h)]
    · rw [if_neg h, if_neg (fun h' => h (key.mpr h'))]
end Go.Proofs.YtpnfdmglhonkmaaGreat
