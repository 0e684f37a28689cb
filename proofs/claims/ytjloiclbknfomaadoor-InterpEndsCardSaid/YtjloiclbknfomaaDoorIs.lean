/- Floats, plain: near numbers' differences are exact (Sterbenz). -/
import Derived.Test.YtjloiclbknfomaaDoorIv
set_option maxRecDepth 100000
namespace Go.Proofs.YtjloiclbknfomaaDoor
open Ieee

def NN (x : Nat) : Nat := takenM x * 2 ^ (takenE x + 1074).toNat
theorem NN_le {x y : Nat} (hx : x < infB) (hy : y < infB) : NN x ≤ NN y ↔ x ≤ y := by
  have key : ∀ {x y : Nat}, x < infB → y < infB → NN x ≤ NN y → x ≤ y := by
    intro x y hx hy h
    have h1 := rung_mono (-1074) h
    unfold NN at h1
    rw [rung_exact hx, rung_exact hy] at h1
    exact h1
  refine ⟨key hx hy, fun h => ?_⟩
  rcases Nat.lt_or_ge (NN y) (NN x) with h2 | h2
  · have h3 := key hy hx (Nat.le_of_lt h2)
    have : x = y := by omega
    subst this
    exact Nat.le_refl _
  · exact h2
theorem exact_NN (s : Bool) (x : Nat) : exact s x = if s = true then -(NN x : Int) else (NN x : Int) := exact_is s x

theorem NN_twice {a b : Nat} (ha : a < infB) (hb : b < infB) (h : ¬ fval (fadd a a) < fval b) : NN b ≤ 2 * NN a := by
  have hwa : a = D.word false a := by unfold Format.word; simp
  have hwb : b = D.word false b := by unfold Format.word; simp
  have hva : fval (fadd a a) = rounds ((NN a : Int) + (NN a : Int)) := by
    have := val_add false false ha ha
    rw [← hwa, exact_NN] at this
    simpa using this
  have hvb : fval b = (b : Int) := by
    have := word_val false (Nat.lt_trans hb (by decide) : b < signB)
    rw [← hwb] at this
    simpa using this
  by_cases hk : (takenE a + 1074).toNat + 1 ≤ 2045
  · obtain ⟨r, hr1, hr2⟩ := rep (m := takenM a) taken_lt ((takenE a + 1074).toNat + 1) hk
    have hNr : NN r = 2 * NN a := by
      unfold NN
      rw [hr2, Nat.pow_succ, ← Nat.mul_assoc, Nat.mul_comm]
    have hround : rounds ((NN a : Int) + (NN a : Int)) = (r : Int) := by
      have := rounds_exact false hr1
      rw [exact_NN, hNr] at this
      simp only [Bool.false_eq_true, if_false] at this
      rw [← this]
      congr 1
      omega
    rw [hva, hround, hvb] at h
    have := (NN_le hb hr1).2 (by omega)
    omega
  · have hle := takenE_le ha
    have he : takenE a = 971 := by omega
    have hm : 4503599627370496 ≤ takenM a := by
      have c : ¬ a < 4503599627370496 := by
        intro c
        have : takenE a = -1074 := if_pos c
        omega
      unfold takenM
      rw [if_neg c]
      omega
    have hb1 : takenM b ≤ 9007199254740992 := Nat.le_of_lt taken_lt
    have hb2 : (takenE b + 1074).toNat ≤ (takenE a + 1074).toNat := by
      have := takenE_le hb
      omega
    unfold NN
    calc takenM b * 2 ^ (takenE b + 1074).toNat ≤ 9007199254740992 * 2 ^ (takenE a + 1074).toNat := Nat.mul_le_mul hb1 (Nat.pow_le_pow_right (by decide) hb2)
      _ = 2 * (4503599627370496 * 2 ^ (takenE a + 1074).toNat) := by rw [← Nat.mul_assoc]
      _ ≤ 2 * (takenM a * 2 ^ (takenE a + 1074).toNat) := Nat.mul_le_mul_left _ (Nat.mul_le_mul_right _ hm)

/-- the difference of two near amounts has 53 digits at most -/
theorem diff_rep {a b : Nat} (ha : a < infB) (hb : b < infB) (h1 : NN b ≤ 2 * NN a) (h2 : NN a ≤ 2 * NN b) : ∃ r, r < infB ∧ (NN r : Int) = (((NN a : Int) - (NN b : Int)).natAbs : Int) := by
  have ea := takenE_ge a
  have eb := takenE_ge b
  have la := takenE_le ha
  have lb := takenE_le hb
  have key : ∀ {a b : Nat}, a < infB → b < infB → NN b ≤ 2 * NN a → NN a ≤ 2 * NN b → takenE b ≤ takenE a → ∃ r, r < infB ∧ (NN r : Int) = (((NN a : Int) - (NN b : Int)).natAbs : Int) := by
    intro a b ha hb h1 h2 hle
    have ea := takenE_ge a
    have eb := takenE_ge b
    have lb := takenE_le hb
    obtain ⟨k, hk⟩ : ∃ k, k = (takenE b + 1074).toNat := ⟨_, rfl⟩
    obtain ⟨d, hd⟩ : ∃ d, (takenE a + 1074).toNat = k + d := ⟨(takenE a + 1074).toNat - k, by omega⟩
    have hp := Nat.two_pow_pos k
    have hNa : NN a = takenM a * 2 ^ d * 2 ^ k := by
      unfold NN
      rw [hd, Nat.mul_assoc, ← Nat.pow_add, Nat.add_comm d k]
    have hNb : NN b = takenM b * 2 ^ k := by
      unfold NN
      rw [← hk]
    obtain ⟨A, hA⟩ : ∃ A, A = takenM a * 2 ^ d := ⟨_, rfl⟩
    rw [← hA] at hNa
    have hbm : takenM b < 9007199254740992 := taken_lt
    obtain ⟨M, hM⟩ : ∃ M : Nat, (M : Int) = (((A : Int) - (takenM b : Int)).natAbs : Int) := ⟨_, rfl⟩
    have hMN : (((NN a : Int) - (NN b : Int)).natAbs : Int) = ((M * 2 ^ k : Nat) : Int) := by
      rw [hNa, hNb, Int.natCast_mul, Int.natCast_mul, ← Int.sub_mul, Int.natAbs_mul, Int.natAbs_natCast, Int.natCast_mul, Int.natCast_mul, hM]
    have hM53 : M < 9007199254740992 := by
      have h3 : A ≤ 2 * takenM b := by
        rw [hNa, hNb] at h2
        have : A * 2 ^ k ≤ 2 * takenM b * 2 ^ k := by rw [Nat.mul_assoc]; exact h2
        exact Nat.le_of_mul_le_mul_right this hp
      omega
    obtain ⟨r, hr1, hr2⟩ := rep hM53 k (by omega)
    refine ⟨r, hr1, ?_⟩
    rw [hMN]
    unfold NN
    rw [hr2]
  rcases Int.le_total (takenE b) (takenE a) with hle | hle
  · exact key ha hb h1 h2 hle
  · obtain ⟨r, hr1, hr2⟩ := key hb ha h2 h1 hle
    exact ⟨r, hr1, by rw [hr2]; omega⟩

/-- NumSterbenz: the difference is exact: added to b it is a -/
theorem sterbenz {a b : Nat} (ha : a < infB) (ha0 : 0 < a) (hb : b < infB) (hb0 : 0 < b) (h1 : ¬ fval (fadd a a) < fval b) (h2 : ¬ fval (fadd b b) < fval a) : fadd (fsub a b) b = a := by
  have n1 := NN_twice ha hb h1
  have n2 := NN_twice hb ha h2
  obtain ⟨r, hr1, hr2⟩ := diff_rep ha hb n1 n2
  have hsI : infB < signB := by decide
  have hwa : a = D.word false a := by unfold Format.word; simp
  have hwb : b = D.word false b := by unfold Format.word; simp
  have hb2 : b < 2 * signB := by omega
  have hnb : isN b = false := decide_eq_false (by rw [Nat.mod_eq_of_lt (by omega)]; omega)
  have hneg : fneg b = D.word true b := by
    unfold fneg
    rw [hnb, if_neg (by decide)]
    have := word_flip false b (by omega)
    rw [← hwb] at this
    exact this.symm
  have hsub : fval (fsub a b) = rounds ((NN a : Int) - (NN b : Int)) := by
    rw [fsub_eq hb2, hneg]
    have := val_add false true ha hb
    rw [← hwa, exact_NN, exact_NN] at this
    rw [this]
    congr 1
  obtain ⟨c, hc⟩ : ∃ c, c = fsub a b := ⟨_, rfl⟩
  rw [← hc] at hsub ⊢
  have hclt : c < 2 * signB := by rw [hc]; exact (fsub_lt a b).1
  obtain ⟨wc, lc⟩ := word_of hclt
  generalize decide (signB ≤ c) = s at wc
  obtain ⟨x, hx⟩ : ∃ x, x = c % signB := ⟨_, rfl⟩
  rw [← hx] at wc lc
  have hvc := word_val s lc
  rw [← wc, hsub] at hvc
  -- the difference's rung is r
  have hT : rounds ((NN a : Int) - (NN b : Int)) = if (NN a : Int) - (NN b : Int) < 0 then -(r : Int) else (r : Int) := by
    have hrr := rung_exact hr1
    have hNr : takenM r * 2 ^ (takenE r + 1074).toNat = ((NN a : Int) - (NN b : Int)).natAbs := by
      have : NN r = ((NN a : Int) - (NN b : Int)).natAbs := by omega
      exact this
    unfold rounds
    rw [← hNr, hrr]
  rw [hT] at hvc
  have hxr : x = r := by
    cases s <;> simp only [Bool.false_eq_true, if_false, if_true] at hvc <;> split at hvc <;> omega
  have hex : exact s x = (NN a : Int) - (NN b : Int) := by
    rw [exact_NN, hxr]
    by_cases hr0 : r = 0
    · have hN0 : NN r = 0 := by
        rw [hr0]
        unfold NN
        rw [(takenM_zero 0).2 rfl, Nat.zero_mul]
      rw [hN0] at hr2 ⊢
      split <;> omega
    · rw [hxr] at hvc
      cases s <;> simp only [Bool.false_eq_true, if_false, if_true] at hvc ⊢ <;> split at hvc <;> omega
  have hsum : fval (fadd c b) = (a : Int) := by
    have h3 := val_add s false (hxr ▸ hr1 : x < infB) hb
    rw [← wc, ← hwb, hex, exact_NN] at h3
    rw [h3]
    simp only [Bool.false_eq_true, if_false]
    rw [show (NN a : Int) - (NN b : Int) + (NN b : Int) = (NN a : Int) by omega]
    have := rounds_exact false ha
    rw [exact_NN] at this
    simpa using this
  unfold fval at hsum
  split at hsum
  · omega
  · rename_i hlt
    rw [Nat.mod_eq_of_lt (by omega)] at hsum
    omega
end Go.Proofs.YtjloiclbknfomaaDoor
