/- Floats, plain: the quotient. -/
import Derived.Test.YtjloiclbknfomaaDoorIr
set_option maxRecDepth 100000
namespace Go.Proofs.YtjloiclbknfomaaDoor
open Ieee

/-- nothing that lies strictly between two far digits makes a difference -/
theorem nearest_sticky (s : Bool) {A : Nat} {e : Int} (hA : 2 ^ 53 ≤ A) (u : Nat) (h1 : 1 ≤ u) (h3 : u ≤ 3) : D.nearest s (4 * A + u) e = D.nearest s (4 * A + 2) e := by
  have key : ∀ u : Nat, 1 ≤ u → u ≤ 3 → D.nearest s (4 * A + u) e = D.word s (min (((max (e + ((A.log2 + 2 : Nat) : Int) - 52) (-1074)) + 1074).toNat * 4503599627370496 + (if (max (e + ((A.log2 + 2 : Nat) : Int) - 52) (-1074) - e).toNat ≤ A.log2 + 4 then A / 2 ^ ((max (e + ((A.log2 + 2 : Nat) : Int) - 52) (-1074) - e).toNat - 2) + (if 2 ^ ((max (e + ((A.log2 + 2 : Nat) : Int) - 52) (-1074) - e).toNat - 3) ≤ A % 2 ^ ((max (e + ((A.log2 + 2 : Nat) : Int) - 52) (-1074) - e).toNat - 2) then 1 else 0) else 0)) infB) := by
    intro u h1 h3
    have hA0 : A ≠ 0 := by have := Nat.two_pow_pos 53; omega
    have hl53 : 53 ≤ A.log2 := (Nat.le_log2 hA0).2 hA
    have hlog : (4 * A + u).log2 = A.log2 + 2 := by
      have a1 := log_le A hA0
      have a2 : A < 2 ^ (A.log2 + 1) := Nat.lt_log2_self
      refine log2_is ?_ ?_
      · rw [Nat.pow_succ, Nat.pow_succ]
        omega
      · rw [show A.log2 + 2 + 1 = (A.log2 + 1) + 1 + 1 by omega, Nat.pow_succ, Nat.pow_succ]
        omega
    unfold Format.nearest
    rw [if_neg (by omega)]
    rw [hlog]
    have hf : ((D.fractionBits : Nat) : Int) = 52 := rfl
    simp only [hf, D_least, D_bin, D_inf]
    generalize hlast : max (e + ((A.log2 + 2 : Nat) : Int) - 52) (-1074) = last
    have hd3 : 3 ≤ last - e := by
      have := Int.le_max_left (e + ((A.log2 + 2 : Nat) : Int) - 52) (-1074)
      rw [hlast] at this
      omega
    obtain ⟨n, hn⟩ : ∃ n : Nat, last - e = (n : Int) := ⟨(last - e).toNat, by omega⟩
    rw [show (e - last).toNat = 0 by omega, Nat.shiftLeft_zero, hn, Int.toNat_natCast, Int.sub_neg]
    congr 3
    rw [cut_even, hlog]
    by_cases hle : n ≤ A.log2 + 4
    · rw [if_pos hle, Nat.min_eq_left hle]
      obtain ⟨k, rfl⟩ : ∃ k, n = k + 3 := ⟨n - 3, by omega⟩
      have hp := Nat.two_pow_pos k
      have e1 : 2 ^ (k + 3) = 4 * (2 * 2 ^ k) := by rw [Nat.pow_add]; omega
      have e2 : 2 ^ (k + 3 - 2) = 2 * 2 ^ k := by rw [show k + 3 - 2 = k + 1 by omega, Nat.pow_succ]; omega
      have e3 : 2 ^ (k + 3 - 3) = 2 ^ k := by rw [show k + 3 - 3 = k by omega]
      have dm := Nat.div_add_mod A (2 * 2 ^ k)
      have hm : A % (2 * 2 ^ k) < 2 * 2 ^ k := Nat.mod_lt _ (by omega)
      have hW : 4 * A + u = (4 * (2 * 2 ^ k)) * (A / (2 * 2 ^ k)) + (4 * (A % (2 * 2 ^ k)) + u) := by
        rw [Nat.mul_assoc]
        omega
      have q1 : (4 * A + u) / (4 * (2 * 2 ^ k)) = A / (2 * 2 ^ k) := by
        rw [hW, Nat.mul_add_div (by omega), Nat.div_eq_of_lt (show 4 * (A % (2 * 2 ^ k)) + u < 4 * (2 * 2 ^ k) by omega), Nat.add_zero]
      have q2 : (4 * A + u) % (4 * (2 * 2 ^ k)) = 4 * (A % (2 * 2 ^ k)) + u := by
        rw [hW, Nat.mul_add_mod, Nat.mod_eq_of_lt (show 4 * (A % (2 * 2 ^ k)) + u < 4 * (2 * 2 ^ k) by omega)]
      rw [e1, e2, e3, q1, q2]
      congr 1
      by_cases hc : 2 ^ k ≤ A % (2 * 2 ^ k)
      · rw [if_pos hc, if_pos (.inl (by omega))]
      · rw [if_neg hc, if_neg (by omega)]
    · rw [if_neg hle, Nat.min_eq_right (by omega)]
      have a2 : A < 2 ^ (A.log2 + 1) := Nat.lt_log2_self
      have e1 : 2 ^ (A.log2 + 2 + 2) = 8 * 2 ^ (A.log2 + 1) := by rw [show A.log2 + 2 + 2 = (A.log2 + 1) + 3 by omega, Nat.pow_add]; omega
      rw [Nat.div_eq_of_lt (by omega), Nat.mod_eq_of_lt (by omega), if_neg (by omega)]
  rw [key u h1 h3, key 2 (by omega) (by omega)]

/-- the quotient to so many digits, and one that says whether anything is left -/
def quo (m n k : Nat) : Nat := 2 * (m * 2 ^ k / n) + (if m * 2 ^ k % n = 0 then 0 else 1)

theorem quo_step (s : Bool) {m n k : Nat} {p : Int} (hn : 0 < n) (hA : 2 ^ 53 ≤ m * 2 ^ k / n) : D.nearest s (quo m n (k + 1)) (p - 1) = D.nearest s (quo m n k) p := by
  have dm := Nat.div_add_mod (m * 2 ^ k) n
  have hr : m * 2 ^ k % n < n := Nat.mod_lt _ hn
  generalize hA' : m * 2 ^ k / n = A at dm hA
  generalize hr' : m * 2 ^ k % n = r at dm hr
  have hm2 : m * 2 ^ (k + 1) = n * (2 * A) + 2 * r := by
    rw [Nat.pow_succ, ← Nat.mul_assoc, ← dm, Nat.mul_comm 2 A, ← Nat.mul_assoc]
    omega
  have hA0 : 0 < A := by have := Nat.two_pow_pos 53; omega
  unfold quo
  rw [hA', hr', hm2, Nat.mul_add_div hn, Nat.mul_add_mod]
  by_cases h0 : r = 0
  · subst h0
    rw [Nat.mul_zero, Nat.zero_div, Nat.zero_mod]
    simp only [if_true, Nat.add_zero]
    have := nearest_scale s (m := 2 * A) (d := 1) (e := p) (f := p - 1) (by omega) (by omega)
    rw [Nat.pow_one] at this
    rw [← this, Nat.mul_comm]
  · rw [if_neg h0]
    have hs := nearest_scale s (m := 2 * A + 1) (d := 1) (e := p) (f := p - 1) (by omega) (by omega)
    rw [Nat.pow_one] at hs
    rw [← hs, show (2 * A + 1) * 2 = 4 * A + 2 by omega]
    by_cases h2 : 2 * r < n
    · rw [Nat.div_eq_of_lt h2, Nat.mod_eq_of_lt h2, if_neg (by omega), Nat.add_zero (2 * A), show 2 * (2 * A) + 1 = 4 * A + 1 by omega]
      exact nearest_sticky s hA 1 (by omega) (by omega)
    · have e1 : 2 * r / n = 1 := by
        rw [show 2 * r = n * 1 + (2 * r - n) by omega, Nat.mul_add_div hn, Nat.div_eq_of_lt (by omega)]
      have e2 : 2 * r % n = 2 * r - n := by
        rw [show 2 * r = n * 1 + (2 * r - n) by omega, Nat.mul_add_mod, Nat.mod_eq_of_lt (by omega)]
        omega
      rw [e1, e2]
      by_cases h3 : 2 * r - n = 0
      · rw [if_pos h3, show 2 * (2 * A + 1) + 0 = 4 * A + 2 by omega]
      · rw [if_neg h3, show 2 * (2 * A + 1) + 1 = 4 * A + 3 by omega]
        exact nearest_sticky s hA 3 (by omega) (by omega)

theorem quo_steps (s : Bool) {m n k : Nat} {p : Int} (hn : 0 < n) (hA : 2 ^ 53 ≤ m * 2 ^ k / n) : ∀ j : Nat, D.nearest s (quo m n (k + j)) (p - j) = D.nearest s (quo m n k) p
  | 0 => by simp
  | j + 1 => by
    have ih := quo_steps s hn hA (p := p) j
    rw [← ih, ← Nat.add_assoc, show p - ((j + 1 : Nat) : Int) = p - (j : Int) - 1 by omega]
    refine quo_step s hn (Nat.le_trans hA (Nat.div_le_div_right (Nat.mul_le_mul_left _ ?_)))
    exact Nat.pow_le_pow_right (by decide) (by omega)

/-- how the document rounds, with a rest -/
theorem rnd_sticky (s : Bool) {w : Nat} (e : Int) (r : Bool) (hw : 2 ^ 54 ≤ w) (hb : w < 2 ^ 126) : rnd s w e r = D.nearest s (2 * w + r.toNat) (e - 1) := by
  have hw0 : w ≠ 0 := by have := Nat.two_pow_pos 54; omega
  have hbl := bitLen_pos hw0
  have hl : w.log2 < 126 := (Nat.log2_lt hw0).2 hb
  have hl54 : 54 ≤ w.log2 := (Nat.le_log2 hw0).2 hw
  have hr1 : r.toNat ≤ 1 := by cases r <;> decide
  have a1 := log_le w hw0
  have a2 : w < 2 ^ (w.log2 + 1) := Nat.lt_log2_self
  have hlog : (2 * w + r.toNat).log2 = w.log2 + 1 := by
    refine log2_is ?_ ?_
    · rw [Nat.pow_succ]
      omega
    · rw [Nat.pow_succ]
      omega
  have hlast : max (e - 1 + ((w.log2 + 1 : Nat) : Int) - (D.fractionBits : Int)) D.leastPlace = rndQ w e := by
    unfold rndQ
    rw [hbl, D_least, show (D.fractionBits : Int) = 52 from rfl]
    split
    · rw [Int.max_eq_right (by omega)]
    · rw [Int.max_eq_left (by omega)]
      omega
  have hq2 : 2 ≤ rndQ w e - e := by
    unfold rndQ
    rw [hbl]
    split <;> omega
  unfold rnd Format.nearest
  rw [if_neg (by omega), hlog]
  simp only [hlast]
  simp only [D_least, D_bin, D_inf]
  congr 1
  obtain ⟨n, hn⟩ : ∃ n : Nat, rndQ w e - e = (n : Int) := ⟨(rndQ w e - e).toNat, by omega⟩
  have hcut : Toward.even.cut s ((2 * w + r.toNat) <<< (e - 1 - rndQ w e).toNat) (rndQ w e - (e - 1)).toNat = rndM w n r := by
    rw [show (e - 1 - rndQ w e).toNat = 0 by omega, Nat.shiftLeft_zero, show (rndQ w e - (e - 1)).toNat = n + 1 by omega, cut_even, hlog]
    unfold rndM
    obtain ⟨k, rfl⟩ : ∃ k, n = k + 1 := ⟨n - 1, by omega⟩
    have hp := Nat.two_pow_pos k
    have e2 : 2 ^ (k + 1) = 2 * 2 ^ k := by rw [Nat.pow_succ]; omega
    by_cases hle : k + 1 + 1 ≤ w.log2 + 1 + 2
    · rw [Nat.min_eq_left hle, Nat.add_sub_cancel]
      have e1 : 2 ^ (k + 1 + 1) = 2 * (2 * 2 ^ k) := by rw [Nat.pow_succ, e2]; omega
      rw [e1, e2]
      have dm := Nat.div_add_mod w (2 * 2 ^ k)
      have hm : w % (2 * 2 ^ k) < 2 * 2 ^ k := Nat.mod_lt _ (by omega)
      have hW : 2 * w + r.toNat = (2 * (2 * 2 ^ k)) * (w / (2 * 2 ^ k)) + (2 * (w % (2 * 2 ^ k)) + r.toNat) := by
        rw [Nat.mul_assoc]
        omega
      have q1 : (2 * w + r.toNat) / (2 * (2 * 2 ^ k)) = w / (2 * 2 ^ k) := by
        rw [hW, Nat.mul_add_div (by omega), Nat.div_eq_of_lt (show 2 * (w % (2 * 2 ^ k)) + r.toNat < 2 * (2 * 2 ^ k) by omega), Nat.add_zero]
      have q2 : (2 * w + r.toNat) % (2 * (2 * 2 ^ k)) = 2 * (w % (2 * 2 ^ k)) + r.toNat := by
        rw [hW, Nat.mul_add_mod, Nat.mod_eq_of_lt (show 2 * (w % (2 * 2 ^ k)) + r.toNat < 2 * (2 * 2 ^ k) by omega)]
      rw [q1, q2]
      congr 1
      have hiff : (2 * (2 * 2 ^ k) < 2 * (2 * (w % (2 * 2 ^ k)) + r.toNat) ∨ 2 * (2 * 2 ^ k) = 2 * (2 * (w % (2 * 2 ^ k)) + r.toNat) ∧ w / (2 * 2 ^ k) % 2 = 1) ↔ (2 ^ k < w % (2 * 2 ^ k) ∨ w % (2 * 2 ^ k) = 2 ^ k ∧ (r = true ∨ w / (2 * 2 ^ k) % 2 = 1)) := by
        cases r
        · simp only [Bool.toNat_false, Bool.false_eq_true, false_or]
          omega
        · simp only [Bool.toNat_true, true_or, and_true]
          omega
      simp only [hiff]
    · rw [Nat.min_eq_right (by omega), Nat.add_sub_cancel]
      have e1 : 2 ^ (w.log2 + 1 + 2) = 4 * 2 ^ (w.log2 + 1) := by rw [Nat.pow_add]; omega
      have e3 : 2 ^ (w.log2 + 1) ≤ 2 ^ k := Nat.pow_le_pow_right (by decide) (by omega)
      have w1 : 2 * w + r.toNat < 2 ^ (w.log2 + 1 + 2) := by omega
      have w2 : w < 2 ^ (k + 1) := by omega
      rw [Nat.div_eq_of_lt w1, Nat.mod_eq_of_lt w1, Nat.div_eq_of_lt w2, Nat.mod_eq_of_lt w2, if_neg (by omega), if_neg (by omega)]
  rw [hcut, Int.sub_neg]
  have hq : -1074 ≤ rndQ w e := by
    unfold rndQ
    split <;> omega
  unfold rndR
  rw [hn, Int.toNat_natCast]
  by_cases h0 : 127 < (n : Int)
  · rw [if_pos h0]
    have hqq : rndQ w e = -1074 := by
      unfold rndQ at hn ⊢
      rw [hbl] at hn ⊢
      split
      · rfl
      · rename_i h3
        rw [if_neg h3] at hn
        omega
    have hm : rndM w n r = 0 := by
      unfold rndM
      have hp : 2 ^ 127 ≤ 2 ^ (n - 1) := Nat.pow_le_pow_right (by decide) (by omega)
      have hp2 : 2 ^ (n - 1) ≤ 2 ^ n := Nat.pow_le_pow_right (by decide) (by omega)
      have h127 : 2 ^ 126 < 2 ^ 127 := by decide
      have w2 : w < 2 ^ n := by omega
      rw [Nat.div_eq_of_lt w2, Nat.mod_eq_of_lt w2, if_neg (by omega)]
    rw [hm, hqq]
    rfl
  · rw [if_neg h0, if_neg (show ¬ ((n : Int) ≤ 0) by omega)]
    simp only []
    by_cases h2 : 971 < rndQ w e
    · rw [if_pos h2]
      have hk : n = w.log2 - 52 := by
        unfold rndQ at h2 hn
        rw [hbl] at h2 hn
        split at hn
        · rename_i h3
          rw [if_pos h3] at h2
          omega
        · omega
      have hge : 4503599627370496 ≤ rndM w n r := by
        rw [hk]
        unfold rndM
        have : 4503599627370496 ≤ w / 2 ^ (w.log2 - 52) := by
          rw [Nat.le_div_iff_mul_le (Nat.two_pow_pos _)]
          calc 4503599627370496 * 2 ^ (w.log2 - 52) = 2 ^ w.log2 := by rw [show (4503599627370496 : Nat) = 2 ^ 52 by decide, ← Nat.pow_add, show 52 + (w.log2 - 52) = w.log2 by omega]
            _ ≤ w := log_le w hw0
        omega
      have : 9218868437227405312 ≤ (rndQ w e + 1074).toNat * 4503599627370496 + rndM w n r := by omega
      rw [Nat.min_eq_right this]
      rfl
    · rw [if_neg h2]
      unfold infB
      split
      · rename_i h3
        rw [Nat.min_eq_right h3]
      · rename_i h3
        rw [Nat.min_eq_left (by omega)]

/-- the document's quotient -/
def rDiv (a b : Nat) : Nat :=
  if infB < a % signB ∨ infB < b % signB ∨ (a % signB = infB ∧ b % signB = infB) ∨ (a % signB = 0 ∧ b % signB = 0) then nanB
  else if a % signB = infB ∨ b % signB = 0 then D.word (decide (signB ≤ a) ^^ decide (signB ≤ b)) infB
  else if b % signB = infB ∨ a % signB = 0 then D.word (decide (signB ≤ a) ^^ decide (signB ≤ b)) 0
  else rnd (decide (signB ≤ a) ^^ decide (signB ≤ b)) (takenM (a % signB) * 2 ^ (123 - (takenM (a % signB)).log2) / takenM (b % signB)) (takenE (a % signB) - ((123 - (takenM (a % signB)).log2 : Nat) : Int) - takenE (b % signB)) (decide (takenM (a % signB) * 2 ^ (123 - (takenM (a % signB)).log2) % takenM (b % signB) ≠ 0))

theorem quo_rnd (s : Bool) {m n : Nat} (e f : Int) (hm0 : 0 < m) (hm : m < 9007199254740992) (hn0 : 0 < n) (hn : n < 9007199254740992) :
    D.nearest s (2 * (m <<< (54 + n.log2 - m.log2) / n) + (m <<< (54 + n.log2 - m.log2) % n != 0).toNat) (e - f - ((54 + n.log2 - m.log2 : Nat) : Int) - 1) = rnd s (m * 2 ^ (123 - m.log2) / n) (e - ((123 - m.log2 : Nat) : Int) - f) (decide (m * 2 ^ (123 - m.log2) % n ≠ 0)) := by
  have lm : m.log2 < 53 := (Nat.log2_lt (by omega)).2 (by omega)
  have ln : n.log2 < 53 := (Nat.log2_lt (by omega)).2 (by omega)
  have m1 := log_le m (by omega)
  have m2 : m < 2 ^ (m.log2 + 1) := Nat.lt_log2_self
  have n2 : n < 2 ^ (n.log2 + 1) := Nat.lt_log2_self
  obtain ⟨k, hk⟩ : ∃ k, k = 54 + n.log2 - m.log2 := ⟨_, rfl⟩
  obtain ⟨j, hj⟩ : ∃ j, 123 - m.log2 = k + j := ⟨123 - m.log2 - k, by omega⟩
  rw [← hk, hj, Nat.shiftLeft_eq]
  have hA : 2 ^ 53 ≤ m * 2 ^ k / n := by
    rw [Nat.le_div_iff_mul_le hn0]
    calc 2 ^ 53 * n ≤ 2 ^ 53 * 2 ^ (n.log2 + 1) := Nat.mul_le_mul_left _ (by omega)
      _ = 2 ^ m.log2 * 2 ^ k := by rw [← Nat.pow_add, ← Nat.pow_add, show 53 + (n.log2 + 1) = m.log2 + k by omega]
      _ ≤ m * 2 ^ k := Nat.mul_le_mul_right _ m1
  have hw1 : 2 ^ 123 ≤ m * 2 ^ (k + j) := by
    calc 2 ^ 123 = 2 ^ m.log2 * 2 ^ (k + j) := by rw [← Nat.pow_add, show m.log2 + (k + j) = 123 by omega]
      _ ≤ m * 2 ^ (k + j) := Nat.mul_le_mul_right _ m1
  have hw2 : m * 2 ^ (k + j) < 2 ^ 124 := by
    calc m * 2 ^ (k + j) < 2 ^ (m.log2 + 1) * 2 ^ (k + j) := Nat.mul_lt_mul_of_pos_right m2 (Nat.two_pow_pos _)
      _ = 2 ^ 124 := by rw [← Nat.pow_add, show m.log2 + 1 + (k + j) = 124 by omega]
  have hq1 : 2 ^ 54 ≤ m * 2 ^ (k + j) / n := by
    rw [Nat.le_div_iff_mul_le hn0]
    have : 2 ^ 54 * 9007199254740992 ≤ 2 ^ 123 := by decide
    have h2 : 2 ^ 54 * n ≤ 2 ^ 54 * 9007199254740992 := Nat.mul_le_mul_left _ (by omega)
    omega
  have hq2 : m * 2 ^ (k + j) / n < 2 ^ 126 := by
    have h1 := Nat.div_le_self (m * 2 ^ (k + j)) n
    have h2 : 2 ^ 124 < 2 ^ 126 := by decide
    omega
  rw [rnd_sticky s _ _ hq1 hq2]
  have h1 := quo_steps s hn0 hA (p := e - f - (k : Int) - 1) j
  have e1 : quo m n k = 2 * (m * 2 ^ k / n) + (m * 2 ^ k % n != 0).toNat := by
    unfold quo
    by_cases h : m * 2 ^ k % n = 0
    · rw [if_pos h, h]
      rfl
    · rw [if_neg h, show (m * 2 ^ k % n != 0) = true from bne_iff_ne.2 h]
      rfl
  have e2 : quo m n (k + j) = 2 * (m * 2 ^ (k + j) / n) + (decide (m * 2 ^ (k + j) % n ≠ 0)).toNat := by
    unfold quo
    by_cases h : m * 2 ^ (k + j) % n = 0
    · rw [if_pos h, decide_eq_false (by omega)]
      rfl
    · rw [if_neg h, decide_eq_true h]
      rfl
  rw [← e1, ← e2, ← h1]
  congr 1
  omega

theorem fdiv_eq {a b : Nat} (ha : a < 2 * signB) (hb : b < 2 * signB) : fdiv a b = rDiv a b := by
  unfold rDiv
  by_cases hn : infB < a % signB ∨ infB < b % signB
  · rw [if_pos (by
      rcases hn with h | h
      · exact .inl h
      · exact .inr (.inl h))]
    unfold fdiv Format.div
    rcases hn with h | h
    · obtain ⟨s, f, hr⟩ := read_isN ha (decide_eq_true h)
      rw [hr, quotient_nan_l]
      rfl
    · obtain ⟨s, f, hr⟩ := read_isN hb (decide_eq_true h)
      rw [hr, quotient_nan_r]
      rfl
  obtain ⟨wa, la⟩ := word_of ha
  obtain ⟨wb, lb⟩ := word_of hb
  obtain ⟨s, hs⟩ : ∃ s, s = decide (signB ≤ a) := ⟨_, rfl⟩
  obtain ⟨t, ht⟩ : ∃ t, t = decide (signB ≤ b) := ⟨_, rfl⟩
  obtain ⟨x, hx⟩ : ∃ x, x = a % signB := ⟨_, rfl⟩
  obtain ⟨y, hy⟩ : ∃ y, y = b % signB := ⟨_, rfl⟩
  rw [← hs, ← hx] at wa
  rw [← ht, ← hy] at wb
  rw [← hx] at la
  rw [← hy] at lb
  rw [← hx, ← hy] at hn
  rw [← hx, ← hy, ← hs, ← ht]
  rw [show fdiv a b = fdiv (D.word s x) (D.word t y) by rw [← wa, ← wb]]
  unfold fdiv Format.div
  have hi0 : infB ≠ 0 := by decide
  by_cases hxi : x = infB
  · by_cases hyi : y = infB
    · rw [if_pos (.inr (.inr (.inl ⟨hxi, hyi⟩))), hxi, hyi, read_inf, read_inf]
      rfl
    · rw [if_neg (by omega), if_pos (.inl hxi), hxi, read_inf, read_num t (by omega)]
      rfl
  · by_cases hyi : y = infB
    · rw [if_neg (by omega), if_neg (by omega), if_pos (.inl hyi), hyi, read_inf, read_num s (by omega)]
      simp only [Datum.quotient, Option.map_some, Option.getD_some]
      show D.nearest _ _ _ = _
      rw [nearest_none]
    · rw [read_num s (by omega), read_num t (by omega)]
      by_cases hy0 : y = 0
      · by_cases hx0 : x = 0
        · rw [if_pos (.inr (.inr (.inr ⟨hx0, hy0⟩)))]
          simp only [Datum.quotient, if_pos ((takenM_zero y).2 hy0), if_pos ((takenM_zero x).2 hx0)]
          rfl
        · rw [if_neg (by omega), if_pos (.inr hy0)]
          simp only [Datum.quotient, if_pos ((takenM_zero y).2 hy0), if_neg (fun h => hx0 ((takenM_zero x).1 h))]
          rfl
      · rw [if_neg (by omega), if_neg (by omega)]
        simp only [Datum.quotient, if_neg (fun h => hy0 ((takenM_zero y).1 h)), Option.map_some, Option.getD_some]
        show D.nearest _ _ _ = _
        by_cases hx0 : x = 0
        · rw [if_pos (.inr hx0), (takenM_zero x).2 hx0, Nat.zero_shiftLeft, Nat.zero_div, Nat.zero_mod]
          exact nearest_none _ _
        · rw [if_neg (by omega)]
          exact quo_rnd _ _ _ (takenM_pos hx0) taken_lt (takenM_pos hy0) taken_lt
end Go.Proofs.YtjloiclbknfomaaDoor
