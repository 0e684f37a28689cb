/- Floats, plain: a sum is its exact value, rounded. -/
import Derived.Test.YtjloiclbknfomaaDoorIm
set_option maxRecDepth 100000
namespace Go.Proofs.YtjloiclbknfomaaDoor
open Ieee

/-- the exact value of a finite number, in units of 2^-1074 -/
def exact (s : Bool) (x : Nat) : Int := signed s (takenM x) (takenE x + 1074).toNat
/-- a value in such units, rounded: its rung with its sign -/
def rounds (T : Int) : Int := if T < 0 then -(rung T.natAbs (-1074) : Int) else (rung T.natAbs (-1074) : Int)

theorem rounds_mono {T U : Int} (h : T ≤ U) : rounds T ≤ rounds U := by
  unfold rounds
  by_cases h1 : T < 0
  · rw [if_pos h1]
    by_cases h2 : U < 0
    · rw [if_pos h2]
      have := rung_mono (v := U.natAbs) (w := T.natAbs) (-1074) (by omega)
      omega
    · rw [if_neg h2]
      omega
  · rw [if_neg h1, if_neg (by omega)]
    have := rung_mono (v := T.natAbs) (w := U.natAbs) (-1074) (by omega)
    omega

theorem signed_mul (s : Bool) (m u k : Nat) : signed s m u * ((2 ^ k : Nat) : Int) = signed s m (u + k) := by
  rw [signed_up, signed_up, Nat.pow_add, ← Nat.mul_assoc]
  cases s
  · simp only [Bool.false_eq_true, if_false]
    exact (Int.natCast_mul _ _).symm
  · simp only [if_true]
    rw [Int.neg_mul, Int.natCast_mul (m * 2 ^ u) (2 ^ k)]

theorem rung_none (p : Int) : rung 0 p = 0 := by
  unfold rung
  rw [nearest_none]
  rfl

/-- a number of a place, rounded -/
theorem val_nearest {tot base : Int} (hb : -1074 ≤ base) (h0 : tot ≠ 0) : fval (D.nearest (decide (tot < 0)) tot.natAbs base) = rounds (tot * ((2 ^ (base + 1074).toNat : Nat) : Int)) := by
  have hsc := nearest_scale (decide (tot < 0)) (m := tot.natAbs) (d := (base + 1074).toNat) (e := base) (f := -1074) (by omega) (by omega)
  rw [← hsc]
  obtain ⟨h1, h2⟩ := nearest_is (decide (tot < 0)) (tot.natAbs * 2 ^ (base + 1074).toNat) (-1074)
  rw [h1, word_val _ (Nat.lt_of_le_of_lt h2 (by decide))]
  have hp := Nat.two_pow_pos (base + 1074).toNat
  obtain ⟨P, hP⟩ : ∃ P : Nat, P = 2 ^ (base + 1074).toNat := ⟨_, rfl⟩
  rw [← hP] at hp ⊢
  unfold rounds
  have hna : (tot * (P : Int)).natAbs = tot.natAbs * P := by rw [Int.natAbs_mul, Int.natAbs_natCast]
  rw [hna]
  by_cases hs : tot < 0
  · have h3 : tot * (P : Int) < 0 := Int.mul_neg_of_neg_of_pos hs (by omega)
    rw [if_pos h3, decide_eq_true hs, if_pos rfl]
  · have h3 : ¬ tot * (P : Int) < 0 := by
      have := Int.mul_nonneg (a := tot) (b := (P : Int)) (by omega) (by omega)
      omega
    rw [if_neg h3, decide_eq_false hs, if_neg (by decide)]

/-- a sum is its exact value, rounded -/
theorem val_add (s t : Bool) {x y : Nat} (hx : x < infB) (hy : y < infB) : fval (fadd (D.word s x) (D.word t y)) = rounds (exact s x + exact t y) := by
  unfold fadd Format.add
  rw [read_num s hx, read_num t hy]
  simp only [Datum.sum, Option.map_some, Option.getD_some]
  have hge1 := takenE_ge x
  have hge2 := takenE_ge y
  obtain ⟨base, hbase⟩ : ∃ b, b = min (takenE x) (takenE y) := ⟨_, rfl⟩
  rw [← hbase]
  have hb1 : base ≤ takenE x := by rw [hbase]; exact Int.min_le_left _ _
  have hb2 : base ≤ takenE y := by rw [hbase]; exact Int.min_le_right _ _
  have hb3 : -1074 ≤ base := by omega
  refine (congrArg fval (write_total (signed s (takenM x) (takenE x - base).toNat + signed t (takenM y) (takenE y - base).toNat) base s t)).trans ?_
  have hT : exact s x + exact t y = (signed s (takenM x) (takenE x - base).toNat + signed t (takenM y) (takenE y - base).toNat) * ((2 ^ (base + 1074).toNat : Nat) : Int) := by
    unfold exact
    rw [Int.add_mul, signed_mul, signed_mul, show (takenE x - base).toNat + (base + 1074).toNat = (takenE x + 1074).toNat by omega, show (takenE y - base).toNat + (base + 1074).toNat = (takenE y + 1074).toNat by omega]
  rw [hT]
  by_cases h0 : signed s (takenM x) (takenE x - base).toNat + signed t (takenM y) (takenE y - base).toNat = 0
  · rw [if_pos h0, h0, Int.zero_mul, word_val _ (by decide)]
    have : rounds 0 = 0 := by
      unfold rounds
      rw [if_neg (by decide)]
      show ((rung 0 (-1074) : Nat) : Int) = 0
      rw [rung_none]
      rfl
    rw [this]
    split <;> rfl
  · rw [if_neg h0]
    exact val_nearest hb3 h0


/-- the exact value of a rung, rounded, is that rung -/
theorem rung_exact {r : Nat} (h : r < infB) : rung (takenM r * 2 ^ (takenE r + 1074).toNat) (-1074) = r := by
  by_cases h0 : r = 0
  · subst h0
    rw [(takenM_zero 0).2 rfl, Nat.zero_mul, rung_none]
  · have hge := takenE_ge r
    unfold rung
    rw [nearest_scale false (e := takenE r) (takenM_pos h0) (by omega), nearest_taken false h]
    unfold Format.word
    simp

/-- a value of 53 digits at most is a rung's -/
theorem rep {m : Nat} (hm : m < 9007199254740992) : ∀ k : Nat, k ≤ 2045 → ∃ r, r < infB ∧ takenM r * 2 ^ (takenE r + 1074).toNat = m * 2 ^ k := by
  intro k
  induction k generalizing m with
  | zero =>
    intro _
    refine ⟨m, Nat.lt_trans hm (by decide), ?_⟩
    by_cases c : m < 4503599627370496
    · have e1 : takenE m = -1074 := if_pos c
      have e2 : takenM m = m := if_pos c
      rw [e1, e2]
      rfl
    · have e1 : takenE m = -1074 := by
        unfold takenE
        rw [if_neg c]
        omega
      have e2 : takenM m = m := by
        unfold takenM
        rw [if_neg c]
        omega
      rw [e1, e2]
      rfl
  | succ k ih =>
    intro hk
    by_cases c : m < 4503599627370496
    · obtain ⟨r, h1, h2⟩ := ih (m := 2 * m) (by omega) (by omega)
      refine ⟨r, h1, h2.trans ?_⟩
      rw [Nat.pow_succ, Nat.mul_comm 2 m, Nat.mul_assoc, Nat.mul_comm 2]
    · refine ⟨(k + 1) * 4503599627370496 + m, ?_, ?_⟩
      · unfold infB
        omega
      · have c2 : ¬ (k + 1) * 4503599627370496 + m < 4503599627370496 := by omega
        have e1 : takenE ((k + 1) * 4503599627370496 + m) = (k + 1 : Nat) - 1074 := by
          unfold takenE
          rw [if_neg c2]
          omega
        have e2 : takenM ((k + 1) * 4503599627370496 + m) = m := by
          unfold takenM
          rw [if_neg c2]
          omega
        rw [e1, e2, show (((k + 1 : Nat) : Int) - 1074 + 1074).toNat = k + 1 by omega]

/-- a rung's exact value, and its sign -/
theorem exact_is (s : Bool) (x : Nat) : exact s x = if s = true then -((takenM x * 2 ^ (takenE x + 1074).toNat : Nat) : Int) else ((takenM x * 2 ^ (takenE x + 1074).toNat : Nat) : Int) := by
  unfold exact
  rw [signed_up]
theorem rounds_exact (s : Bool) {x : Nat} (h : x < infB) : rounds (exact s x) = if s = true then -(x : Int) else (x : Int) := by
  have hr := rung_exact h
  rw [exact_is]
  generalize hN : takenM x * 2 ^ (takenE x + 1074).toNat = N at hr ⊢
  unfold rounds
  cases s
  · simp only [Bool.false_eq_true, if_false]
    rw [if_neg (by omega), Int.natAbs_natCast, hr]
  · simp only [if_true]
    by_cases c : -(N : Int) < 0
    · rw [if_pos c, Int.natAbs_neg, Int.natAbs_natCast, hr]
    · rw [if_neg c, Int.natAbs_neg, Int.natAbs_natCast, hr]
      have hN0 : N = 0 := by omega
      rw [hN0, rung_none] at hr
      omega
end Go.Proofs.YtjloiclbknfomaaDoor
