/- Floats, plain: powers of 2 are exact (NumScales). -/
import Derived.Test.YtjloiclbknfomaaDoorIk
set_option maxRecDepth 100000
namespace Go.Proofs.YtjloiclbknfomaaDoor
open Ieee

/-- the word of 2^k -/
def pow2 (k : Int) : Nat := (1023 + k).toNat * 4503599627370496
theorem pow2_taken {k : Int} (h : -1000 ≤ k ∧ k ≤ 1000) : pow2 k < infB ∧ takenM (pow2 k) = 4503599627370496 ∧ takenE (pow2 k) = k - 52 := by
  obtain ⟨n, hn⟩ : ∃ n : Nat, (1023 + k).toNat = n := ⟨_, rfl⟩
  unfold pow2
  rw [hn]
  have c : ¬ n * 4503599627370496 < 4503599627370496 := by omega
  refine ⟨by unfold infB; omega, ?_, ?_⟩
  · unfold takenM
    rw [if_neg c, Nat.mul_mod_left]
  · unfold takenE
    rw [if_neg c, Nat.mul_div_cancel _ (by decide)]
    omega

theorem nearest_scale0 (s : Bool) (m : Nat) {d : Nat} {e f : Int} (hd : e - f = (d : Int)) : D.nearest s (m * 2 ^ d) f = D.nearest s m e := by
  by_cases hm : m = 0
  · subst hm
    rw [Nat.zero_mul, nearest_none, nearest_none]
  · exact nearest_scale s (by omega) hd

theorem mul_two (s : Bool) {x y c : Nat} {k : Int} (hx : x < infB) (hy : y < infB) (hM : takenM y = 2 ^ c) (hE : takenE y = k - (c : Int)) : fmul (D.word s x) (D.word false y) = D.word s (rung (takenM x) (takenE x + k)) := by
  have h1 : fmul (D.word s x) (D.word false y) = D.nearest s (takenM x * 2 ^ c) (takenE x + (k - (c : Int))) := by
    unfold fmul Format.mul
    rw [read_num s hx, read_num false hy, hM, hE]
    simp only [Datum.product, Option.map_some, Option.getD_some, Bool.xor_false]
    rfl
  rw [h1, nearest_scale0 s (takenM x) (e := takenE x + k) (d := c) (by omega)]
  exact (nearest_is s _ _).1

theorem quot_two (d c m : Nat) (i j : Int) (s t : Bool) (hl : m.log2 ≤ d) : ∃ g : Nat, Datum.quotient d (.number s m i) (.number t (2 ^ c) j) = some (.number (s ^^ t) (m * 2 ^ (g + 1)) (i - j - (c : Int) - ((g + 1 : Nat) : Int))) := by
  refine ⟨d - m.log2, ?_⟩
  have hc := Nat.two_pow_pos c
  simp only [Datum.quotient]
  rw [if_neg (Nat.pos_iff_ne_zero.1 hc), Nat.log2_two_pow]
  obtain ⟨g, hg⟩ : ∃ g, g = d - m.log2 := ⟨_, rfl⟩
  rw [← hg, show d + c - m.log2 = c + g by omega, Nat.shiftLeft_eq]
  have e1 : m * 2 ^ (c + g) = 2 ^ c * (m * 2 ^ g) := by
    rw [Nat.pow_add]
    exact Nat.mul_left_comm _ _ _
  rw [e1, Nat.mul_div_cancel_left _ hc, Nat.mul_mod_right]
  have e2 : 2 * (m * 2 ^ g) + ((0 : Nat) != 0).toNat = m * 2 ^ (g + 1) := by
    show 2 * (m * 2 ^ g) + 0 = _
    rw [Nat.add_zero, Nat.pow_succ, Nat.mul_comm 2, Nat.mul_assoc]
  have e3 : i - j - ((c + g : Nat) : Int) - 1 = i - j - (c : Int) - ((g + 1 : Nat) : Int) := by omega
  rw [e2, e3]

theorem div_two (s : Bool) {x y c : Nat} {k : Int} (hx : x < infB) (hy : y < infB) (hM : takenM y = 2 ^ c) (hE : takenE y = k - (c : Int)) : fdiv (D.word s x) (D.word false y) = D.word s (rung (takenM x) (takenE x - k)) := by
  have hl : (takenM x).log2 ≤ D.fractionBits + 2 := by
    by_cases h0 : takenM x = 0
    · rw [h0]
      decide
    · have h1 : takenM x < 2 ^ 53 := Nat.lt_of_lt_of_le (taken_lt (r := x)) (by decide)
      have h2 := (Nat.log2_lt (k := 53) h0).2 h1
      have h3 : D.fractionBits = 52 := rfl
      omega
  obtain ⟨g, hg⟩ := quot_two (D.fractionBits + 2) c (takenM x) (takenE x) (k - (c : Int)) s false hl
  have h1 : fdiv (D.word s x) (D.word false y) = D.nearest s (takenM x * 2 ^ (g + 1)) (takenE x - (k - (c : Int)) - (c : Int) - ((g + 1 : Nat) : Int)) := by
    unfold fdiv Format.div
    rw [read_num s hx, read_num false hy, hM, hE, hg, Bool.xor_false]
    rfl
  rw [h1, nearest_scale0 s (takenM x) (e := takenE x - k) (d := g + 1) (by omega)]
  exact (nearest_is s _ _).1

theorem mul_pow2 (s : Bool) {x : Nat} {k : Int} (hx : x < infB) (h : -1000 ≤ k ∧ k ≤ 1000) : fmul (D.word s x) (D.word false (pow2 k)) = D.word s (rung (takenM x) (takenE x + k)) := by
  obtain ⟨p1, p2, p3⟩ := pow2_taken h
  exact mul_two s (c := 52) hx p1 (p2.trans (by decide)) p3
theorem div_pow2 (s : Bool) {x : Nat} {k : Int} (hx : x < infB) (h : -1000 ≤ k ∧ k ≤ 1000) : fdiv (D.word s x) (D.word false (pow2 k)) = D.word s (rung (takenM x) (takenE x - k)) := by
  obtain ⟨p1, p2, p3⟩ := pow2_taken h
  exact div_two s (c := 52) hx p1 (p2.trans (by decide)) p3

/-- an amount that is scaled and stays plain is scaled exactly -/
theorem scaled {m : Nat} {e : Int} (hm : 4503599627370496 ≤ m) (hm2 : m < 9007199254740992) (hr1 : rung m e < infB) (hr2 : 4503599627370496 < rung m e) : takenM (rung m e) = m ∧ takenE (rung m e) = e := by
  have hm0 : m ≠ 0 := by omega
  have p52 : 2 ^ 52 ≤ m := Nat.le_trans (by decide) hm
  have p53 : m < 2 ^ 53 := Nat.lt_of_lt_of_le hm2 (by decide)
  have hlog : m.log2 = 52 := log2_is p52 p53
  have hr := rung_is (p := e) hm0
  have hl : lastOf m e = max e (-1074) := by
    unfold lastOf
    rw [hlog]
    omega
  by_cases he : -1074 ≤ e
  · have hl2 : lastOf m e = e := by
      rw [hl]
      omega
    rw [hl2, Int.sub_self, Int.toNat_zero, Nat.pow_zero, Nat.mul_one, half_zero] at hr
    obtain ⟨n, hn⟩ : ∃ n, n = (e + 1074).toNat := ⟨_, rfl⟩
    rw [← hn] at hr
    have hr3 : rung m e = n * 4503599627370496 + m := by omega
    rw [hr3]
    have c : ¬ n * 4503599627370496 + m < 4503599627370496 := by omega
    constructor
    · unfold takenM
      rw [if_neg c]
      omega
    · unfold takenE
      rw [if_neg c]
      omega
  · exfalso
    have hl2 : lastOf m e = -1074 := by
      rw [hl]
      omega
    rw [hl2, show (-1074 + 1074 : Int).toNat = 0 by decide, Nat.zero_mul, Nat.zero_add, show (e - -1074).toNat = 0 by omega, Nat.pow_zero, Nat.mul_one] at hr
    have h2 : half m (-1074 - e).toNat ≤ 2 ^ 52 := half_le 52 (Nat.lt_of_lt_of_le p53 (Nat.pow_le_pow_right (by decide) (by omega)))
    have h3 : (2 : Nat) ^ 52 = 4503599627370496 := by decide
    rw [h3] at h2
    omega

theorem div_none (y : Nat) {a : Nat} (ha : a < 2 * signB) (h : isN a = true) : fdiv a y = nanB := by
  obtain ⟨s, f, hr⟩ := read_isN ha h
  unfold fdiv Format.div
  rw [hr, quotient_nan_l]
  rfl
theorem mul_none (y : Nat) {a : Nat} (ha : a < 2 * signB) (h : isN a = true) : fmul a y = nanB := by
  obtain ⟨s, f, hr⟩ := read_isN ha h
  unfold fmul Format.mul
  rw [hr, product_nan_l]
  rfl
theorem mul_far (s : Bool) {y : Nat} (hy : y < infB) (h0 : takenM y ≠ 0) : fmul (D.word s infB) (D.word false y) = D.word s infB := by
  unfold fmul Format.mul
  rw [read_inf, read_num false hy]
  simp only [Datum.product, if_neg h0, Bool.xor_false, Option.map_some, Option.getD_some]
  show D.word s D.infRung = _
  rw [D_inf]
  rfl
theorem div_far (s : Bool) {y : Nat} (hy : y < infB) : fdiv (D.word s infB) (D.word false y) = D.word s infB := by
  unfold fdiv Format.div
  rw [read_inf, read_num false hy]
  simp only [Datum.quotient, Bool.xor_false, Option.map_some, Option.getD_some]
  show D.word s D.infRung = _
  rw [D_inf]
  rfl
theorem word_false (y : Nat) : D.word false y = y := by
  unfold Format.word
  simp

/-- NumScales -/
theorem scales {a : Nat} {k : Int} (ha : a < 2 * signB) (h : -1000 ≤ k ∧ k ≤ 1000) : fdiv a (pow2 (-k)) = fmul a (pow2 k) ∧
    (fclass a = 4 → fclass (fmul a (pow2 k)) = 4 → 4503599627370496 < fabs (fmul a (pow2 k)) → fmul (fmul a (pow2 k)) (pow2 (-k)) = a ∧ fdiv (fmul a (pow2 k)) (pow2 k) = a) := by
  have hk : -1000 ≤ -k ∧ -k ≤ 1000 := by omega
  obtain ⟨p1, p2, p3⟩ := pow2_taken h
  obtain ⟨q1, q2, q3⟩ := pow2_taken hk
  by_cases hn : isN a = true
  · rw [div_none _ ha hn, mul_none _ ha hn]
    refine ⟨rfl, fun h4 => ?_⟩
    rw [(class_nan a).2 hn] at h4
    cases h4
  rw [Bool.not_eq_true] at hn
  have hn2 : ¬ infB < a % signB := of_decide_eq_false hn
  obtain ⟨wa, la⟩ := word_of ha
  obtain ⟨s, hs⟩ : ∃ s, s = decide (signB ≤ a) := ⟨_, rfl⟩
  obtain ⟨x, hx⟩ : ∃ x, x = a % signB := ⟨_, rfl⟩
  have h4a := class_plain a
  rw [← hs, ← hx] at wa
  rw [← hx] at hn2 la h4a
  rw [wa] at h4a ⊢
  rw [← word_false (pow2 k), ← word_false (pow2 (-k))]
  by_cases hxi : x = infB
  · rw [hxi, div_far s q1, mul_far s p1 (by rw [p2]; decide)]
    refine ⟨rfl, fun h4 => ?_⟩
    rw [← hxi] at h4
    have := (h4a.1 h4).2
    omega
  · have hxf : x < infB := by omega
    rw [div_pow2 s hxf hk, mul_pow2 s hxf h, show takenE x - -k = takenE x + k by omega]
    refine ⟨rfl, fun h4 h5 h6 => ?_⟩
    have hx52 := (h4a.1 h4).1
    obtain ⟨r, hr⟩ : ∃ r, r = rung (takenM x) (takenE x + k) := ⟨_, rfl⟩
    have hr5 := (class_plain _).1 h5
    have hrI := (nearest_is s (takenM x) (takenE x + k)).2
    have hrS : r < signB := by
      rw [← hr] at hrI
      exact Nat.lt_of_le_of_lt hrI inf_sign
    rw [← hr] at h6 hr5
    rw [word_mod s hrS] at hr5
    have hnr : isN (D.word s r) = false := by
      unfold isN
      rw [word_mod s hrS]
      exact decide_eq_false (by omega)
    unfold fabs at h6
    rw [hnr, if_neg (by decide), word_mod s hrS] at h6
    have hm : 4503599627370496 ≤ takenM x := by
      unfold takenM
      rw [if_neg (by omega)]
      omega
    obtain ⟨e1, e2⟩ := scaled hm (taken_lt (r := x)) (by rw [← hr]; exact hr5.2) (by rw [← hr]; exact h6)
    rw [← hr] at e1 e2 ⊢
    rw [mul_pow2 s hr5.2 hk, div_pow2 s hr5.2 h, e1, e2, show takenE x + k + -k = takenE x by omega, show takenE x + k - k = takenE x by omega]
    have := nearest_taken s hxf
    rw [(nearest_is s _ _).1] at this
    exact ⟨this, this⟩
end Go.Proofs.YtjloiclbknfomaaDoor
