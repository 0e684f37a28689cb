/- Floats, plain: what the loops of the document's package count: lengths, products, quotients. -/
import Derived.Test.YtjloiclbknfomaaGreatDoorFl
import Derived.Test.YtjloiclbknfomaaGreatDoorIw
set_option maxRecDepth 100000
namespace Go.Proofs.YtjloiclbknfomaaGreatDoor
open Ieee

theorem bitLen_half {x : Nat} (h : x ≠ 0) : bitLen x = bitLen (x / 2) + 1 := by
  unfold bitLen
  rw [if_neg h]
  by_cases h1 : x = 1
  · subst h1
    rfl
  · have h2 : x / 2 ≠ 0 := by omega
    rw [if_neg h2]
    congr 1
    rw [Nat.log2_def, if_pos (by omega)]
theorem bitLen_step {n i : Nat} (h : n / 2 ^ i ≠ 0) (hb : bitLen n = i + bitLen (n / 2 ^ i)) : bitLen n = (i + 1) + bitLen (n / 2 ^ (i + 1)) := by
  rw [hb, bitLen_half h, Nat.pow_succ, ← Nat.div_div_eq_div_mul]
  omega
theorem bitLen_le {n k : Nat} (h : n < 2 ^ k) : bitLen n ≤ k := by
  unfold bitLen
  split
  · omega
  · rename_i h0
    have := (Nat.log2_lt h0).2 h
    omega
theorem lt_bitLen (n : Nat) : n < 2 ^ bitLen n := by
  unfold bitLen
  split
  · rename_i h
    subst h
    decide
  · exact Nat.lt_log2_self
/-- one more bit of a product -/
theorem times_step {a b i : Nat} : a * (b % 2 ^ (i + 1)) = if b / 2 ^ i % 2 = 1 then a * (b % 2 ^ i) + a * 2 ^ i else a * (b % 2 ^ i) := by
  rw [Nat.mod_pow_succ]
  split
  · rename_i h
    rw [h, Nat.mul_one, Nat.mul_add]
  · have : b / 2 ^ i % 2 = 0 := by omega
    rw [this, Nat.mul_zero, Nat.add_zero]
/-- one more bit of a quotient -/
theorem quo_bit {x n bit : Nat} (hb : bit < 2) (hn : 0 < n) : (if n ≤ 2 * (x % n) + bit then (2 * x + bit) / n = 2 * (x / n) + 1 ∧ (2 * x + bit) % n = 2 * (x % n) + bit - n else (2 * x + bit) / n = 2 * (x / n) ∧ (2 * x + bit) % n = 2 * (x % n) + bit) := by
  have h1 := Nat.div_add_mod x n
  have h2 := Nat.mod_lt x hn
  obtain ⟨q, hq⟩ : ∃ q, q = x / n := ⟨_, rfl⟩
  obtain ⟨r, hr⟩ : ∃ r, r = x % n := ⟨_, rfl⟩
  rw [← hq, ← hr] at h1
  rw [← hr] at h2
  rw [← hq, ← hr]
  have e : 2 * x + bit = n * (2 * q) + (2 * r + bit) := by
    have : n * (2 * q) = 2 * (n * q) := Nat.mul_left_comm n 2 q
    omega
  split
  · rename_i h
    have e2 : 2 * x + bit = (2 * r + bit - n) + n * (2 * q + 1) := by
      rw [Nat.mul_add, Nat.mul_one]
      omega
    rw [e2, Nat.add_mul_div_left _ _ hn, Nat.add_mul_mod_self_left]
    have h3 : 2 * r + bit - n < n := by omega
    rw [Nat.div_eq_of_lt h3, Nat.mod_eq_of_lt h3]
    exact ⟨by omega, rfl⟩
  · rename_i h
    have e2 : 2 * x + bit = (2 * r + bit) + n * (2 * q) := by omega
    rw [e2, Nat.add_mul_div_left _ _ hn, Nat.add_mul_mod_self_left]
    have h3 : 2 * r + bit < n := by omega
    rw [Nat.div_eq_of_lt h3, Nat.mod_eq_of_lt h3]
    exact ⟨by omega, rfl⟩
theorem next_bit (w i : Nat) : w / 2 ^ i = 2 * (w / 2 ^ (i + 1)) + w / 2 ^ i % 2 := by
  rw [Nat.pow_succ, ← Nat.div_div_eq_div_mul]
  omega

/-- bounds of what is rounded -/
theorem rnd_left {w : Nat} {e : Int} (h : rndQ w e - e ≤ 0) : w * 2 ^ (e - rndQ w e).toNat < 9007199254740992 ∧ (e - rndQ w e).toNat ≤ 53 := by
  have hL := lt_bitLen w
  have hk : (e - rndQ w e).toNat + bitLen w ≤ 53 := by
    unfold rndQ at h ⊢
    split at h
    · rename_i h1
      rw [if_pos h1]
      omega
    · rename_i h1
      rw [if_neg h1]
      omega
  refine ⟨?_, by omega⟩
  have h1 : w * 2 ^ (e - rndQ w e).toNat < 2 ^ bitLen w * 2 ^ (e - rndQ w e).toNat := Nat.mul_lt_mul_of_pos_right hL (Nat.two_pow_pos _)
  rw [← Nat.pow_add] at h1
  exact Nat.lt_of_lt_of_le h1 (Nat.le_trans (Nat.pow_le_pow_right (by decide) (show bitLen w + (e - rndQ w e).toNat ≤ 53 by omega)) (by decide))
theorem rnd_right {w : Nat} {e : Int} (h : 0 < rndQ w e - e) : w / 2 ^ (rndQ w e - e).toNat < 9007199254740992 := by
  have hL := lt_bitLen w
  have hk : bitLen w ≤ 53 + (rndQ w e - e).toNat := by
    unfold rndQ at h ⊢
    split
    · rename_i h1
      rw [if_pos h1] at h
      omega
    · rename_i h1
      rw [if_neg h1] at h
      omega
  refine Nat.div_lt_of_lt_mul ?_
  refine Nat.lt_of_lt_of_le hL ?_
  rw [Nat.mul_comm, show (9007199254740992 : Nat) = 2 ^ 53 from rfl, ← Nat.pow_add]
  exact Nat.pow_le_pow_right (by decide) hk
theorem cut_is (w n : Nat) : w - w / 2 ^ n * 2 ^ n = w % 2 ^ n ∧ w / 2 ^ n * 2 ^ n ≤ w := by
  have h := Nat.div_add_mod w (2 ^ n)
  rw [Nat.mul_comm] at h
  omega
end Go.Proofs.YtjloiclbknfomaaGreatDoor
