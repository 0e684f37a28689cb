/- Floats, plain: sums and products keep the order (NumRises). -/
import Derived.Test.YtjloiclbknfomaaDoorIz
set_option maxRecDepth 100000
namespace Go.Proofs.YtjloiclbknfomaaDoor
open Ieee

theorem no_nan {a : Nat} (h : isN a = false) : a % signB ≤ infB := by
  have : ¬ infB < a % signB := of_decide_eq_false h
  omega
theorem can_not {a : Nat} (h : fcan a = a) (hn : a ≠ nanB) : isN a = false := by
  unfold fcan at h
  cases hc : isN a
  · rfl
  · rw [hc, if_pos rfl] at h
    exact absurd h.symm hn
theorem fval_inf {a : Nat} (h : isN a = false) : fval a ≤ (infB : Int) ∧ -(infB : Int) ≤ fval a := by
  have := no_nan h
  unfold fval
  split <;> omega

/-- how two stand, by their values and the signs of zeros -/
theorem rank_le {u v : Nat} (hu : u < 2 * signB) (hv : v < 2 * signB) (nu : isN u = false) (nv : isN v = false) : forder u v ≤ 0 ↔ (fval u ≤ fval v ∧ ¬ (u = 0 ∧ v = signB)) := by
  rw [forder_eq hu hv, rOrder_le]
  unfold rrank
  rw [nu, nv]
  simp only [Bool.false_eq_true, if_false]
  unfold fval signB at *
  split <;> split <;> omega
theorem forder_self {u : Nat} (hu : u < 2 * signB) : forder u u ≤ 0 := by
  rw [forder_eq hu hu, rOrder_le]
  exact Nat.le_refl _

theorem add_none_r (y : Nat) {a : Nat} (ha : a < 2 * signB) (h : isN a = true) : fadd y a = nanB := by
  obtain ⟨s, f, hr⟩ := read_isN ha h
  unfold fadd Format.add
  rw [hr, sum_nan_r]
  rfl
theorem mul_none_r (y : Nat) {a : Nat} (ha : a < 2 * signB) (h : isN a = true) : fmul y a = nanB := by
  rw [fmul_comm]
  exact mul_none y ha h
theorem add_inf_l {a c : Nat} (ha : a < 2 * signB) (hc : c < 2 * signB) (h : a % signB = infB) : fadd a c = a ∨ fadd a c = nanB := by
  rw [fadd_eq ha hc]
  unfold rAdd
  by_cases c1 : infB < a % signB ∨ infB < c % signB ∨ (a % signB = infB ∧ c % signB = infB ∧ a ≠ c)
  · rw [if_pos c1]
    exact .inr rfl
  · rw [if_neg c1, if_pos h]
    exact .inl rfl
theorem add_inf_r {a c : Nat} (ha : a < 2 * signB) (hc : c < 2 * signB) (h : c % signB = infB) : fadd a c = c ∨ fadd a c = nanB := by
  rw [fadd_comm]
  exact add_inf_l hc ha h

theorem rung_one : rung 1 (-1074) = 1 := by
  have h := rung_exact (r := 1) (by decide)
  have h2 : takenM 1 * 2 ^ (takenE 1 + 1074).toNat = 1 := by decide
  rw [h2] at h
  exact h
theorem rounds_none {T : Int} (h : rounds T = 0) : T = 0 := by
  by_cases h0 : T = 0
  · exact h0
  · exfalso
    have h1 := rung_mono (v := 1) (w := T.natAbs) (-1074) (by omega)
    rw [rung_one] at h1
    unfold rounds at h
    split at h <;> omega

theorem fval_zero {a : Nat} (h : a % signB = 0) : fval a = 0 := by
  unfold fval
  rw [h]
  split <;> rfl

/-- a sum that is the zero below the other one is that of two such zeros -/
theorem add_below {b c : Nat} (hb : Fin_ b) (hc : Fin_ c) (h : fadd b c = signB) : b = signB ∧ c = signB := by
  have h1 := fval_add hb hc
  rw [h, fval_zero (by decide)] at h1
  have hT := rounds_none h1.symm
  have heq := fadd_eq hb.1 hc.1
  rw [h] at heq
  have hbI := hb.2
  have hcI := hc.2
  unfold ex at hT
  rw [exact_NN, exact_NN] at hT
  have hNN : NN (b % signB) = NN (c % signB) := by
    split at hT <;> split at hT <;> omega
  have hxy : b % signB = c % signB := by
    have h2 := (NN_le hbI hcI).1 (by omega)
    have h3 := (NN_le hcI hbI).1 (by omega)
    omega
  unfold rAdd at heq
  rw [if_neg (by omega), if_neg (by omega), if_neg (by omega)] at heq
  by_cases h0 : b % signB = 0
  · rw [if_pos ⟨h0, by omega⟩] at heq
    have hbl := hb.1
    have hcl := hc.1
    have h5 := hxy
    rw [h0] at h5
    by_cases c2 : signB ≤ b ∧ signB ≤ c
    · unfold signB at *
      omega
    · rw [if_neg c2] at heq
      exact absurd heq (by decide)
  · exfalso
    rw [if_neg (by omega), if_neg (by omega), if_neg (by omega), if_neg (by omega), hxy] at heq
    unfold sum2 at heq
    rw [if_neg (by omega)] at heq
    by_cases hst : decide (signB ≤ b) = decide (signB ≤ c)
    · rw [hst, hNN] at hT
      have hpos : 0 < NN (c % signB) := by
        unfold NN
        exact Nat.mul_pos (takenM_pos (by omega)) (Nat.two_pow_pos _)
      split at hT <;> omega
    · rw [if_neg hst, if_pos rfl] at heq
      exact absurd heq (by decide)

theorem word_nan {s : Bool} {r : Nat} (h : r ≤ infB) : isN (D.word s r) = false := by
  unfold isN
  rw [word_mod s (Nat.lt_of_le_of_lt h inf_sign)]
  exact decide_eq_false (by omega)

/-- NumRises, sums -/
theorem rises_add {a b c : Nat} (ha : a < 2 * signB) (hb : b < 2 * signB) (hc : c < 2 * signB) (na : isN a = false) (nb : isN b = false) (h : forder a b ≤ 0) (hx : fadd a c ≠ nanB) (hy : fadd b c ≠ nanB) : forder (fadd a c) (fadd b c) ≤ 0 := by
  have lx := fadd_lt a c
  have ly := fadd_lt b c
  have nx := can_not lx.2 hx
  have ny := can_not ly.2 hy
  obtain ⟨h1, h2⟩ := (rank_le ha hb na nb).1 h
  have bx := fval_inf nx
  have by_ := fval_inf ny
  by_cases nc : isN c = true
  · exact absurd (add_none_r a hc nc) hx
  rw [Bool.not_eq_true] at nc
  by_cases ci : c % signB = infB
  · rw [(add_inf_r ha hc ci).resolve_right hx, (add_inf_r hb hc ci).resolve_right hy]
    exact forder_self hc
  have fc : Fin_ c := ⟨hc, by have := no_nan nc; omega⟩
  have ba := no_nan na
  have bb := no_nan nb
  have hIpos : 0 < infB := by decide
  have hIs := inf_sign
  by_cases ai : a % signB = infB
  · have ex1 := (add_inf_l ha hc ai).resolve_right hx
    by_cases sa : signB ≤ a
    · rw [ex1] at bx nx lx ⊢
      refine (rank_le ha ly.1 na ny).2 ⟨?_, by omega⟩
      have : fval a = -(infB : Int) := by
        unfold fval
        rw [if_pos sa, ai]
      omega
    · have : b = a := by
        unfold fval at h1
        rw [if_neg sa, ai] at h1
        unfold signB infB at *
        split at h1 <;> omega
      subst this
      exact forder_self lx.1
  by_cases bi : b % signB = infB
  · have ey1 := (add_inf_l hb hc bi).resolve_right hy
    by_cases sb : signB ≤ b
    · exfalso
      unfold fval at h1
      rw [if_pos sb, bi] at h1
      split at h1 <;> omega
    · rw [ey1]
      refine (rank_le lx.1 hb nx nb).2 ⟨?_, ?_⟩
      · have : fval b = (infB : Int) := by
          unfold fval
          rw [if_neg sb, bi]
        omega
      · rintro ⟨_, e⟩
        rw [e] at sb
        exact sb (Nat.le_refl _)
  have fa : Fin_ a := ⟨ha, by omega⟩
  have fb : Fin_ b := ⟨hb, by omega⟩
  refine (rank_le lx.1 ly.1 nx ny).2 ⟨add_rises ha hb hc fa.2 fb.2 fc.2 h1, ?_⟩
  rintro ⟨e1, e2⟩
  obtain ⟨g1, g2⟩ := add_below fb fc e2
  have g3 := fadd_eq ha hc
  rw [e1, g2] at g3
  rw [g1] at h1 h2
  have hz : signB % signB = 0 := by decide
  unfold rAdd at g3
  rw [hz] at g3
  rw [fval_zero (a := signB) hz] at h1
  rw [if_neg (by omega), if_neg ai, if_neg (by omega)] at g3
  by_cases h0 : a % signB = 0
  · rw [if_pos ⟨h0, rfl⟩] at g3
    have sa : signB ≤ a := by
      unfold signB at *
      omega
    rw [if_pos ⟨sa, Nat.le_refl _⟩] at g3
    exact absurd g3 (by decide)
  · rw [if_neg (by omega), if_neg h0, if_pos rfl] at g3
    rw [← g3] at h0
    exact h0 (by decide)

theorem fval_word (s : Bool) {r : Nat} (h : r ≤ infB) : fval (D.word s r) = if s = true then -(r : Int) else (r : Int) := word_val s (Nat.lt_of_le_of_lt h inf_sign)

/-- NumRises, products by what has no sign -/
theorem rises_mul {a b c : Nat} (ha : a < 2 * signB) (hb : b < 2 * signB) (hc : c < 2 * signB) (na : isN a = false) (nb : isN b = false) (h : forder a b ≤ 0) (hs : c < signB) (hx : fmul a c ≠ nanB) (hy : fmul b c ≠ nanB) (hz : ¬ (fmul a c % signB = 0 ∧ fmul b c % signB = 0)) : forder (fmul a c) (fmul b c) ≤ 0 := by
  have lx := fmul_lt a c
  have ly := fmul_lt b c
  have nx := can_not lx.2 hx
  have ny := can_not ly.2 hy
  obtain ⟨h1, h2⟩ := (rank_le ha hb na nb).1 h
  refine (rank_le lx.1 ly.1 nx ny).2 ⟨?_, ?_⟩
  rotate_left
  · rintro ⟨e1, e2⟩
    exact hz ⟨by rw [e1]; decide, by rw [e2]; decide⟩
  have bx := fval_inf nx
  have by_ := fval_inf ny
  by_cases nc : isN c = true
  · exact absurd (mul_none_r a hc nc) hx
  rw [Bool.not_eq_true] at nc
  have ba := no_nan na
  have bb := no_nan nb
  have bc := no_nan nc
  have hIpos : 0 < infB := by decide
  have hIs := inf_sign
  have hcm : c % signB = c := Nat.mod_eq_of_lt hs
  have hcs : decide (signB ≤ c) = false := decide_eq_false (by omega)
  have mx := fmul_eq ha hc
  have my := fmul_eq hb hc
  unfold rMul at mx my
  rw [hcm, hcs, Bool.xor_false] at mx my
  -- what has the sign of the lesser
  have vneg : ∀ {u : Nat}, signB ≤ u → fval u = -((u % signB : Nat) : Int) := fun h => if_pos h
  have vpos : ∀ {u : Nat}, ¬ signB ≤ u → fval u = ((u % signB : Nat) : Int) := fun h => if_neg h
  by_cases ci : c = infB
  · have a0 : a % signB ≠ 0 := fun e => hx (by rw [mx, if_pos (.inr (.inr (.inr ⟨e, ci⟩)))])
    have b0 : b % signB ≠ 0 := fun e => hy (by rw [my, if_pos (.inr (.inr (.inr ⟨e, ci⟩)))])
    rw [if_neg (by omega), if_pos (.inr ci)] at mx
    rw [if_neg (by omega), if_pos (.inr ci)] at my
    rw [mx, my, fval_word _ (Nat.le_refl _), fval_word _ (Nat.le_refl _)]
    by_cases sa : signB ≤ a
    · rw [decide_eq_true sa, if_pos rfl]
      split <;> omega
    · rw [decide_eq_false sa, if_neg (by decide)]
      by_cases sb : signB ≤ b
      · exfalso
        rw [vpos sa, vneg sb] at h1
        omega
      · rw [decide_eq_false sb, if_neg (by decide)]
        omega
  have fc : c < infB := by omega
  by_cases c0 : c = 0
  · exfalso
    have ai : a % signB ≠ infB := fun e => hx (by rw [mx, if_pos (.inr (.inr (.inl ⟨e, c0⟩)))])
    have bi : b % signB ≠ infB := fun e => hy (by rw [my, if_pos (.inr (.inr (.inl ⟨e, c0⟩)))])
    rw [if_neg (by omega), if_neg (by omega), if_pos (.inr c0)] at mx
    rw [if_neg (by omega), if_neg (by omega), if_pos (.inr c0)] at my
    refine hz ⟨?_, ?_⟩
    · rw [mx]
      exact word_mod _ (by decide)
    · rw [my]
      exact word_mod _ (by decide)
  by_cases ai : a % signB = infB
  · rw [if_neg (by omega), if_pos (.inl ai)] at mx
    by_cases sa : signB ≤ a
    · rw [mx, decide_eq_true sa, fval_word _ (Nat.le_refl _), if_pos rfl]
      omega
    · have : b = a := by
        rw [vpos sa, ai] at h1
        by_cases sb : signB ≤ b
        · rw [vneg sb] at h1
          omega
        · rw [vpos sb] at h1
          unfold signB infB at *
          omega
      subst this
      exact Int.le_refl _
  by_cases bi : b % signB = infB
  · rw [if_neg (by omega), if_pos (.inl bi)] at my
    by_cases sb : signB ≤ b
    · exfalso
      rw [vneg sb, bi] at h1
      by_cases sa : signB ≤ a
      · rw [vneg sa] at h1
        omega
      · rw [vpos sa] at h1
        omega
    · rw [my, decide_eq_false sb, fval_word _ (Nat.le_refl _), if_neg (by decide)]
      omega
  have fa : Fin_ a := ⟨ha, by omega⟩
  have fb : Fin_ b := ⟨hb, by omega⟩
  have fC : Fin_ c := ⟨hc, by omega⟩
  have ex1 := mul_exact fa fC
  have ey1 := mul_exact fb fC
  rw [hcs, Bool.xor_false, hcm] at ex1 ey1
  rw [(nearest_is _ _ _).1] at ex1 ey1
  rw [ex1, ey1, fval_word _ (nearest_is false _ _).2, fval_word _ (nearest_is false _ _).2]
  have mono : ∀ {u v : Nat}, u < infB → v < infB → u ≤ v → rung (NN u * NN c) (-2148) ≤ rung (NN v * NN c) (-2148) := fun hu hv e => rung_mono _ (Nat.mul_le_mul_right _ ((NN_le hu hv).2 e))
  by_cases sa : signB ≤ a
  · rw [decide_eq_true sa, if_pos rfl]
    by_cases sb : signB ≤ b
    · rw [decide_eq_true sb, if_pos rfl]
      rw [vneg sa, vneg sb] at h1
      have := mono fb.2 fa.2 (by omega)
      omega
    · rw [decide_eq_false sb, if_neg (by decide)]
      omega
  · rw [decide_eq_false sa, if_neg (by decide)]
    by_cases sb : signB ≤ b
    · rw [decide_eq_true sb, if_pos rfl]
      rw [vpos sa, vneg sb] at h1
      have e1 : a % signB = 0 := by omega
      have e2 : b % signB = 0 := by omega
      rw [e1, e2, NN_zero, Nat.zero_mul, rung_none]
      decide
    · rw [decide_eq_false sb, if_neg (by decide)]
      rw [vpos sa, vpos sb] at h1
      have := mono fa.2 fb.2 (by omega)
      omega
end Go.Proofs.YtjloiclbknfomaaDoor
