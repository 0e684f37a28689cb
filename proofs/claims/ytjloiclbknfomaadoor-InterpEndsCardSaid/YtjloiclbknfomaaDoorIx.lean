/- Floats, plain: sums keep the order. -/
import Derived.Test.YtjloiclbknfomaaDoorIs
set_option maxRecDepth 100000
namespace Go.Proofs.YtjloiclbknfomaaDoor
open Ieee

theorem exact_mono {s t : Bool} {x y : Nat} (hx : x < infB) (hy : y < infB) (h : fval (D.word s x) ≤ fval (D.word t y)) : exact s x ≤ exact t y := by
  have hI : infB < signB := by decide
  rw [word_val s (by omega), word_val t (by omega)] at h
  rw [exact_NN, exact_NN]
  have h1 := NN_le hx hy
  have h2 := NN_le hy hx
  have z : ∀ {x : Nat}, x = 0 → NN x = 0 := by
    rintro x rfl
    unfold NN
    rw [(takenM_zero 0).2 rfl, Nat.zero_mul]
  cases s
  · cases t
    · simp only [Bool.false_eq_true, if_false] at h ⊢
      have := h1.2 (by omega)
      omega
    · simp only [Bool.false_eq_true, if_false, if_true] at h ⊢
      have hx0 : x = 0 := by omega
      have hy0 : y = 0 := by omega
      rw [z hx0, z hy0]
      decide
  · cases t
    · simp only [Bool.false_eq_true, if_false, if_true] at h ⊢
      omega
    · simp only [if_true] at h ⊢
      have := h2.2 (by omega)
      omega

/-- sums of finite numbers keep the order of values -/
theorem add_rises {a b c : Nat} (ha : a < 2 * signB) (hb : b < 2 * signB) (hc : c < 2 * signB) (fa : a % signB < infB) (fb : b % signB < infB) (fc : c % signB < infB) (h : fval a ≤ fval b) : fval (fadd a c) ≤ fval (fadd b c) := by
  obtain ⟨wa, la⟩ := word_of ha
  obtain ⟨wb, lb⟩ := word_of hb
  obtain ⟨wc, lc⟩ := word_of hc
  obtain ⟨s, hs⟩ : ∃ s, s = decide (signB ≤ a) := ⟨_, rfl⟩
  obtain ⟨t, ht⟩ : ∃ t, t = decide (signB ≤ b) := ⟨_, rfl⟩
  obtain ⟨u, hu⟩ : ∃ u, u = decide (signB ≤ c) := ⟨_, rfl⟩
  rw [← hs] at wa
  rw [← ht] at wb
  rw [← hu] at wc
  have h1 := val_add s u fa fc
  have h2 := val_add t u fb fc
  rw [← wa, ← wc] at h1
  rw [← wb, ← wc] at h2
  rw [h1, h2]
  rw [wa, wb] at h
  have := exact_mono fa fb h
  exact rounds_mono (by omega)
end Go.Proofs.YtjloiclbknfomaaDoor
