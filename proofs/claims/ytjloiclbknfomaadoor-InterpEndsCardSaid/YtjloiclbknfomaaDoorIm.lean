/- Floats, plain: rounding keeps the order. -/
import Derived.Test.YtjloiclbknfomaaDoorIo
set_option maxRecDepth 100000
namespace Go.Proofs.YtjloiclbknfomaaDoor
open Ieee

/-- the rung that a number is rounded to -/
def rung (m : Nat) (e : Int) : Nat := (D.nearest false m e)
theorem nearest_is (s : Bool) (m : Nat) (e : Int) : D.nearest s m e = D.word s (rung m e) ∧ rung m e ≤ infB := by
  obtain ⟨r, hr, h⟩ := nearest_rung s m e
  have h1 : rung m e = r := by
    unfold rung
    rw [h false]
    unfold Format.word
    simp
  rw [h1]
  exact ⟨h s, hr⟩

/-- the rounding of a whole number -/
def half (w n : Nat) : Nat := Toward.even.cut false w n
theorem half_zero (w : Nat) : half w 0 = w := cut_zero _ _
theorem half_is {w n : Nat} (hn : 0 < n) : half w n = rndM w n false := cut_rnd _ hn

theorem half_bounds (w n : Nat) : w / 2 ^ n ≤ half w n ∧ half w n ≤ w / 2 ^ n + 1 := by
  by_cases hn : n = 0
  · subst hn
    rw [half_zero, Nat.pow_zero, Nat.div_one]
    omega
  · rw [half_is (by omega)]
    unfold rndM
    split <;> omega

theorem half_mono {v w : Nat} (n : Nat) (h : v ≤ w) : half v n ≤ half w n := by
  by_cases hn : n = 0
  · subst hn
    rw [half_zero, half_zero]
    exact h
  · have hq : v / 2 ^ n ≤ w / 2 ^ n := Nat.div_le_div_right h
    rcases Nat.lt_or_ge (v / 2 ^ n) (w / 2 ^ n) with hlt | hge
    · have h1 := (half_bounds v n).2
      have h2 := (half_bounds w n).1
      omega
    · have he : v / 2 ^ n = w / 2 ^ n := Nat.le_antisymm hq hge
      rw [half_is (by omega), half_is (by omega)]
      unfold rndM
      have d1 := Nat.div_add_mod v (2 ^ n)
      have d2 := Nat.div_add_mod w (2 ^ n)
      rw [he] at d1 ⊢
      have hr : v % 2 ^ n ≤ w % 2 ^ n := by omega
      generalize v % 2 ^ n = r1 at hr ⊢
      generalize w % 2 ^ n = r2 at hr ⊢
      generalize 2 ^ (n - 1) = H
      generalize w / 2 ^ n = q
      simp only [Bool.false_eq_true, false_or]
      by_cases c1 : H < r1 ∨ r1 = H ∧ q % 2 = 1
      · rw [if_pos c1, if_pos (by omega)]
        omega
      · rw [if_neg c1]
        omega

/-- the place that a number's last digit is rounded to -/
def lastOf (w : Nat) (p : Int) : Int := max (p + (w.log2 : Int) - 52) (-1074)
theorem rung_is {w : Nat} {p : Int} (hw : w ≠ 0) : rung w p = min ((lastOf w p + 1074).toNat * 4503599627370496 + half (w * 2 ^ (p - lastOf w p).toNat) (lastOf w p - p).toNat) infB := by
  unfold rung Format.nearest
  rw [if_neg hw]
  have : max (p + (w.log2 : Int) - (D.fractionBits : Int)) D.leastPlace = lastOf w p := by
    unfold lastOf
    rw [D_least]
    rfl
  simp only [this]
  simp only [D_least, D_bin, D_inf]
  rw [Int.sub_neg, Nat.shiftLeft_eq]
  unfold Format.word
  simp only [Bool.false_eq_true, if_false]
  rfl

theorem half_le {w p : Nat} (k : Nat) (h : w < 2 ^ (k + p)) : half w p ≤ 2 ^ k := by
  have h1 := (half_bounds w p).2
  have h2 : w / 2 ^ p < 2 ^ k := by
    rw [Nat.div_lt_iff_lt_mul (Nat.two_pow_pos p), ← Nat.pow_add]
    exact h
  omega
theorem half_ge {w p : Nat} (k : Nat) (h : 2 ^ (k + p) ≤ w) : 2 ^ k ≤ half w p := by
  have h1 := (half_bounds w p).1
  have h2 : 2 ^ k ≤ w / 2 ^ p := by
    rw [Nat.le_div_iff_mul_le (Nat.two_pow_pos p), ← Nat.pow_add]
    exact h
  omega

/-- what is kept has 53 digits at most, and 53 where the number is no tiny one -/
theorem kept_le (w : Nat) (p : Int) : half (w * 2 ^ (p - lastOf w p).toNat) (lastOf w p - p).toNat ≤ 9007199254740992 := by
  have h2 : w < 2 ^ (w.log2 + 1) := Nat.lt_log2_self
  rw [show (9007199254740992 : Nat) = 2 ^ 53 by decide]
  refine half_le 53 ?_
  have hl : p + (w.log2 : Int) - 52 ≤ lastOf w p := Int.le_max_left _ _
  by_cases c : lastOf w p ≤ p
  · rw [show (lastOf w p - p).toNat = 0 by omega, Nat.add_zero]
    calc w * 2 ^ (p - lastOf w p).toNat < 2 ^ (w.log2 + 1) * 2 ^ (p - lastOf w p).toNat := Nat.mul_lt_mul_of_pos_right h2 (Nat.two_pow_pos _)
      _ ≤ 2 ^ 53 := by
        rw [← Nat.pow_add]
        exact Nat.pow_le_pow_right (by decide) (by omega)
  · rw [show (p - lastOf w p).toNat = 0 by omega, Nat.pow_zero, Nat.mul_one]
    calc w < 2 ^ (w.log2 + 1) := h2
      _ ≤ 2 ^ (53 + (lastOf w p - p).toNat) := Nat.pow_le_pow_right (by decide) (by omega)
theorem kept_ge {w : Nat} {p : Int} (hw : w ≠ 0) (hl : -1074 < lastOf w p) : 4503599627370496 ≤ half (w * 2 ^ (p - lastOf w p).toNat) (lastOf w p - p).toNat := by
  have h1 := log_le w hw
  have he : lastOf w p = p + (w.log2 : Int) - 52 := by
    unfold lastOf at hl ⊢
    omega
  rw [show (4503599627370496 : Nat) = 2 ^ 52 by decide]
  refine half_ge 52 ?_
  by_cases c : lastOf w p ≤ p
  · rw [show (lastOf w p - p).toNat = 0 by omega, Nat.add_zero]
    calc 2 ^ 52 = 2 ^ w.log2 * 2 ^ (p - lastOf w p).toNat := by rw [← Nat.pow_add, show w.log2 + (p - lastOf w p).toNat = 52 by omega]
      _ ≤ w * 2 ^ (p - lastOf w p).toNat := Nat.mul_le_mul_right _ h1
  · rw [show (p - lastOf w p).toNat = 0 by omega, Nat.pow_zero, Nat.mul_one, show 52 + (lastOf w p - p).toNat = w.log2 by omega]
    exact h1

theorem rungs_le {L1 L2 K1 K2 I : Nat} (h : L1 + 1 ≤ L2) (k1 : K1 ≤ 9007199254740992) (k2 : 4503599627370496 ≤ K2) : min (L1 * 4503599627370496 + K1) I ≤ min (L2 * 4503599627370496 + K2) I := by
  have h2 := Nat.mul_le_mul_right 4503599627370496 h
  rw [Nat.add_mul] at h2
  omega

theorem rung_mono {v w : Nat} (p : Int) (h : v ≤ w) : rung v p ≤ rung w p := by
  by_cases hv : v = 0
  · subst hv
    unfold rung
    rw [nearest_none]
    exact Nat.zero_le _
  have hw : w ≠ 0 := by omega
  have hlog : v.log2 ≤ w.log2 := (Nat.le_log2 hw).2 (Nat.le_trans (log_le v hv) h)
  rw [rung_is hv, rung_is hw]
  have hlast : lastOf v p ≤ lastOf w p := by
    unfold lastOf
    omega
  by_cases hl : lastOf v p = lastOf w p
  · rw [hl]
    have := half_mono (lastOf w p - p).toNat (Nat.mul_le_mul_right (2 ^ (p - lastOf w p).toNat) h)
    omega
  · have k1 := kept_le v p
    have k2 := kept_ge (p := p) hw (by
      have : -1074 ≤ lastOf v p := Int.le_max_right _ _
      omega)
    have h3 : -1074 ≤ lastOf v p := Int.le_max_right _ _
    have h4 : (lastOf v p + 1074).toNat + 1 ≤ (lastOf w p + 1074).toNat := by omega
    exact rungs_le h4 k1 k2
end Go.Proofs.YtjloiclbknfomaaDoor
