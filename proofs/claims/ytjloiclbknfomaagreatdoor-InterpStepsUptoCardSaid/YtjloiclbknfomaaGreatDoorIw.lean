/- Whole numbers of 128 bits in two words, plain: shifts, sums, differences. -/
import Derived.Laws.BitsAllLaws
set_option maxRecDepth 100000
namespace Go.Proofs.YtjloiclbknfomaaGreatDoor

theorem two_words {x q r : Nat} (h : x = q * 18446744073709551616 + r) (hr : r < 18446744073709551616) : x / 18446744073709551616 = q ∧ x % 18446744073709551616 = r := by omega

theorem mul_split {h l P Q c d W : Nat} (hW : P * Q = W) (hl : l = c * Q + d) (hd : d < Q) (hP : 0 < P) : (h * W + l) * P = (h * P + c) * W + d * P ∧ d * P < W ∧ l * P = c * W + d * P := by
  subst hl
  have e : c * Q * P = c * W := by rw [← hW, Nat.mul_assoc, Nat.mul_comm Q P]
  refine ⟨?_, ?_, ?_⟩
  · rw [Nat.add_mul, Nat.add_mul, Nat.add_mul, e, Nat.mul_right_comm h W P, Nat.add_assoc]
  · rw [← hW, Nat.mul_comm P Q]
    exact Nat.mul_lt_mul_of_pos_right hd hP
  · rw [Nat.add_mul, e]

/-- a shift to the left by 1 to 63 -/
theorem left_words {n k : Nat} (hk0 : 0 < k) (hk : k < 64) (hn : n * 2 ^ k < 340282366920938463463374607431768211456) :
    (n / 18446744073709551616 * 2 ^ k) % 18446744073709551616 ||| (n % 18446744073709551616) / 2 ^ (64 - k) = n * 2 ^ k / 18446744073709551616 ∧
    (n % 18446744073709551616) * 2 ^ k % 18446744073709551616 = n * 2 ^ k % 18446744073709551616 := by
  have hW : 2 ^ k * 2 ^ (64 - k) = 18446744073709551616 := by
    rw [← Nat.pow_add, show k + (64 - k) = 64 by omega]
  obtain ⟨P, hP⟩ : ∃ P, P = 2 ^ k := ⟨_, rfl⟩
  obtain ⟨Q, hQ⟩ : ∃ Q, Q = 2 ^ (64 - k) := ⟨_, rfl⟩
  have hP0 : 0 < P := by rw [hP]; exact Nat.two_pow_pos k
  have hQ0 : 0 < Q := by rw [hQ]; exact Nat.two_pow_pos _
  rw [← hP] at hn
  rw [← hP, ← hQ] at hW
  obtain ⟨h, hh⟩ : ∃ h, h = n / 18446744073709551616 := ⟨_, rfl⟩
  obtain ⟨l, hl⟩ : ∃ l, l = n % 18446744073709551616 := ⟨_, rfl⟩
  have hnl : n = h * 18446744073709551616 + l := by omega
  have hll : l < 18446744073709551616 := by omega
  have hc : l = l / Q * Q + l % Q := by
    have := Nat.div_add_mod l Q
    rw [Nat.mul_comm] at this
    exact this.symm
  obtain ⟨h1, h2, h3⟩ := mul_split (h := h) hW hc (Nat.mod_lt l hQ0) hP0
  rw [← hnl] at h1
  obtain ⟨e1, e2⟩ := two_words h1 h2
  have hlt : h * P < 18446744073709551616 := by
    have : h * P + l / Q < 18446744073709551616 := by
      rw [← e1]
      omega
    omega
  have hcP : l / Q < P := by
    refine Nat.div_lt_of_lt_mul ?_
    rw [Nat.mul_comm, hW]
    exact hll
  rw [← hh, ← hl, ← hP, ← hQ, Nat.mod_eq_of_lt hlt, e1, e2]
  refine ⟨?_, ?_⟩
  · refine nat_join k _ _ ?_ (by rw [← hP]; exact hcP)
    rw [← hP]
    exact Nat.mul_mod_left h P
  · rw [h3]
    omega
/-- a shift to the left by 64 to 127 -/
theorem left_far {n k : Nat} (hk0 : 64 ≤ k) (hn : n * 2 ^ k < 340282366920938463463374607431768211456) :
    (n % 18446744073709551616) * 2 ^ (k - 64) % 18446744073709551616 = n * 2 ^ k / 18446744073709551616 ∧ n * 2 ^ k % 18446744073709551616 = 0 := by
  have hW : 2 ^ k = 2 ^ (k - 64) * 18446744073709551616 := by
    rw [show (18446744073709551616 : Nat) = 2 ^ 64 from rfl, ← Nat.pow_add, show k - 64 + 64 = k by omega]
  have hP0 := Nat.two_pow_pos (k - 64)
  obtain ⟨P, hP⟩ : ∃ P, P = 2 ^ (k - 64) := ⟨_, rfl⟩
  rw [← hP] at hW hP0
  rw [hW, ← Nat.mul_assoc] at hn
  have h1 : n * P < 18446744073709551616 := by omega
  have h2 : n ≤ n * P := Nat.le_mul_of_pos_right n hP0
  rw [hW, ← hP, ← Nat.mul_assoc, Nat.mod_eq_of_lt (show n < 18446744073709551616 by omega)]
  omega
/-- a shift to the right by 1 to 63 -/
theorem right_words {n k : Nat} (hk0 : 0 < k) (hk : k < 64) (hn : n < 340282366920938463463374607431768211456) :
    (n / 18446744073709551616) / 2 ^ k = n / 2 ^ k / 18446744073709551616 ∧
    (n % 18446744073709551616) / 2 ^ k ||| (n / 18446744073709551616 * 2 ^ (64 - k)) % 18446744073709551616 = n / 2 ^ k % 18446744073709551616 := by
  have hW : 2 ^ k * 2 ^ (64 - k) = 18446744073709551616 := by
    rw [← Nat.pow_add, show k + (64 - k) = 64 by omega]
  obtain ⟨P, hP⟩ : ∃ P, P = 2 ^ k := ⟨_, rfl⟩
  obtain ⟨Q, hQ⟩ : ∃ Q, Q = 2 ^ (64 - k) := ⟨_, rfl⟩
  have hP0 : 0 < P := by rw [hP]; exact Nat.two_pow_pos k
  have hQ0 : 0 < Q := by rw [hQ]; exact Nat.two_pow_pos _
  rw [← hP, ← hQ] at hW
  obtain ⟨h, hh⟩ : ∃ h, h = n / 18446744073709551616 := ⟨_, rfl⟩
  obtain ⟨l, hl⟩ : ∃ l, l = n % 18446744073709551616 := ⟨_, rfl⟩
  have hnl : n = h * 18446744073709551616 + l := by omega
  have hll : l < 18446744073709551616 := by omega
  rw [← hP, ← hQ, ← hh, ← hl]
  have hdiv : n / P = h * Q + l / P := by
    rw [hnl, ← hW, Nat.mul_comm P Q, ← Nat.mul_assoc, Nat.add_comm, Nat.add_mul_div_right _ _ hP0, Nat.add_comm]
  have hlQ : l / P < Q := by
    refine Nat.div_lt_of_lt_mul ?_
    rw [hW]
    exact hll
  have hc : h = h / P * P + h % P := by
    have := Nat.div_add_mod h P
    rw [Nat.mul_comm] at this
    exact this.symm
  have hPQ : P * Q = 18446744073709551616 := hW
  obtain ⟨h1, h2, h3⟩ := mul_split (h := 0) (l := h) (P := Q) (Q := P) (c := h / P) (d := h % P) (W := 18446744073709551616) ((Nat.mul_comm Q P).trans hPQ) hc (Nat.mod_lt h hP0) hQ0
  have hmod : h * Q % 18446744073709551616 = h % P * Q := by
    rw [h3]
    omega
  have hsum : h % P * Q + l / P < 18446744073709551616 := by
    have hm : h % P < P := Nat.mod_lt h hP0
    have : (h % P + 1) * Q ≤ P * Q := Nat.mul_le_mul_right Q hm
    rw [Nat.add_mul, Nat.one_mul] at this
    omega
  have htot : n / P = h / P * 18446744073709551616 + (h % P * Q + l / P) := by
    rw [hdiv, h3]
    omega
  obtain ⟨e1, e2⟩ := two_words htot hsum
  rw [e1, e2, hmod]
  refine ⟨rfl, ?_⟩
  rw [Nat.or_comm, nat_join (64 - k) (h % P * Q) (l / P) ?_ (by rw [← hQ]; exact hlQ)]
  rw [← hQ]
  exact Nat.mul_mod_left _ Q
/-- a shift to the right by 64 to 127 -/
theorem right_far {n k : Nat} (hk0 : 64 ≤ k) (hk : k < 128) (hn : n < 340282366920938463463374607431768211456) :
    (n / 18446744073709551616) / 2 ^ (k - 64) = n / 2 ^ k % 18446744073709551616 ∧ n / 2 ^ k / 18446744073709551616 = 0 := by
  have hW : 2 ^ k = 18446744073709551616 * 2 ^ (k - 64) := by
    rw [show (18446744073709551616 : Nat) = 2 ^ 64 from rfl, ← Nat.pow_add, show 64 + (k - 64) = k by omega]
  have h1 : n / 2 ^ k = n / 18446744073709551616 / 2 ^ (k - 64) := by
    rw [hW, Nat.div_div_eq_div_mul]
  have h2 : n / 18446744073709551616 < 18446744073709551616 := by omega
  have h3 : n / 18446744073709551616 / 2 ^ (k - 64) ≤ n / 18446744073709551616 := Nat.div_le_self _ _
  rw [h1]
  generalize n / 18446744073709551616 / 2 ^ (k - 64) = x at h3 ⊢
  omega

theorem plus_words {a b : Nat} (_ : a + b < 340282366920938463463374607431768211456) :
    ((a % 18446744073709551616 + b % 18446744073709551616) % 18446744073709551616 = (a + b) % 18446744073709551616) ∧
    (((a % 18446744073709551616 + b % 18446744073709551616) % 18446744073709551616 < a % 18446744073709551616 → (a / 18446744073709551616 + b / 18446744073709551616 + 1) = (a + b) / 18446744073709551616) ∧
     (¬ (a % 18446744073709551616 + b % 18446744073709551616) % 18446744073709551616 < a % 18446744073709551616 → (a / 18446744073709551616 + b / 18446744073709551616) = (a + b) / 18446744073709551616)) := by
  refine ⟨by omega, ?_, ?_⟩ <;> intro <;> omega
theorem minus_words {a b : Nat} (h : b ≤ a) :
    (a % 18446744073709551616 < b % 18446744073709551616 → (a / 18446744073709551616 - b / 18446744073709551616 - 1) = (a - b) / 18446744073709551616 ∧ b / 18446744073709551616 + 1 ≤ a / 18446744073709551616 ∧ a % 18446744073709551616 + 18446744073709551616 - b % 18446744073709551616 = (a - b) % 18446744073709551616) ∧
    (¬ a % 18446744073709551616 < b % 18446744073709551616 → (a / 18446744073709551616 - b / 18446744073709551616) = (a - b) / 18446744073709551616 ∧ b / 18446744073709551616 ≤ a / 18446744073709551616 ∧ a % 18446744073709551616 - b % 18446744073709551616 = (a - b) % 18446744073709551616) := by
  refine ⟨?_, ?_⟩ <;> intro <;> omega
end Go.Proofs.YtjloiclbknfomaaGreatDoor
