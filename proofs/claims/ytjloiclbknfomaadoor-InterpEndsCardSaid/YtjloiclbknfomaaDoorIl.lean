/- Floats, plain: amounts with their leading bit in place; what Frexp and Ldexp tell; the text of a number. -/
import Derived.Test.YtjloiclbknfomaaDoorIh
import Derived.Lib.ItoaNum
import Derived.Lib.TrailingZeros
set_option maxRecDepth 100000
namespace Go.Proofs.YtjloiclbknfomaaDoor
open Go.RowKit Ieee

theorem word_f (x : Nat) : D.word false x = x := by
  unfold Format.word
  simp
theorem mul_taken {x y : Nat} (hx : x < infB) (hy : y < infB) : fmul x y = D.nearest false (takenM x * takenM y) (takenE x + takenE y) := by
  have h1 := read_num false hx
  have h2 := read_num false hy
  rw [word_f] at h1 h2
  unfold fmul Format.mul
  rw [h1, h2]
  simp only [Datum.product, Option.map_some, Option.getD_some]
  rfl

/-- the amount with its leading bit in place -/
def mant (r : Nat) : Nat := takenM r * 2 ^ (52 - (takenM r).log2)
theorem log52 {r : Nat} (h0 : r ≠ 0) : (takenM r).log2 ≤ 52 := by
  have h := (Nat.log2_lt (k := 53) (Nat.pos_iff_ne_zero.1 (takenM_pos h0))).2 (show takenM r < 2 ^ 53 from taken_lt)
  omega
theorem mant_range {r : Nat} (h0 : r ≠ 0) : 4503599627370496 ≤ mant r ∧ mant r < 9007199254740992 := by
  have hl := log52 h0
  have hp := Nat.pos_iff_ne_zero.1 (takenM_pos h0)
  have h1 := log_le (takenM r) hp
  have h2 : takenM r < 2 ^ ((takenM r).log2 + 1) := Nat.lt_log2_self
  unfold mant
  obtain ⟨m, hm⟩ : ∃ m, m = takenM r := ⟨_, rfl⟩
  rw [← hm] at hl h1 h2 ⊢
  obtain ⟨L, hL⟩ : ∃ L, L = m.log2 := ⟨_, rfl⟩
  rw [← hL] at hl h1 h2 ⊢
  have e1 : 2 ^ L * 2 ^ (52 - L) = 4503599627370496 := by
    rw [← Nat.pow_add, show L + (52 - L) = 52 by omega]
  have e2 : 2 ^ (L + 1) * 2 ^ (52 - L) = 9007199254740992 := by
    rw [← Nat.pow_add, show L + 1 + (52 - L) = 53 by omega]
  have h3 := Nat.mul_le_mul_right (2 ^ (52 - L)) h1
  have h4 := Nat.mul_lt_mul_of_pos_right h2 (show 0 < 2 ^ (52 - L) from Nat.pow_pos (by decide))
  omega
theorem mant_big {r : Nat} (h : 4503599627370496 ≤ r) : mant r = 4503599627370496 + r % 4503599627370496 ∧ (takenM r).log2 = 52 ∧ takenE r = ((r / 4503599627370496 : Nat) : Int) - 1075 ∧ takenM r = 4503599627370496 + r % 4503599627370496 := by
  have h0 : r ≠ 0 := by omega
  have e : takenM r = 4503599627370496 + r % 4503599627370496 := by
    unfold takenM
    rw [if_neg (by omega)]
  have hl : (takenM r).log2 = 52 := log2_is (by rw [e]; omega) (by rw [e]; omega)
  refine ⟨?_, hl, ?_, e⟩
  · unfold mant
    rw [hl, e, Nat.sub_self, Nat.pow_zero, Nat.mul_one]
  · unfold takenE
    rw [if_neg (by omega)]
theorem mant_small {r : Nat} (h : r < 4503599627370496) : takenM r = r ∧ takenE r = -1074 := by
  unfold takenM takenE
  rw [if_pos h, if_pos h]
  exact ⟨rfl, rfl⟩

/-- what normalize makes of an amount above 0 -/
def nrm (r : Nat) : Nat := if r < 4503599627370496 then r.log2 * 4503599627370496 + mant r else r
theorem nrm_mul {r : Nat} (h0 : r ≠ 0) (h : r < 4503599627370496) : fmul r 4841369599423283200 = nrm r := by
  obtain ⟨em, ee⟩ := mant_small h
  have hl := log52 h0
  have hmr := mant_range h0
  rw [em] at hl
  have hm : mant r = r * 2 ^ (52 - r.log2) := by
    unfold mant
    rw [em]
  have hL52 : r.log2 < 52 := (Nat.log2_lt h0).2 h
  rw [mul_taken (by unfold infB; omega) (by decide), em, ee, show takenM 4841369599423283200 = 2 ^ 52 by decide, show takenE 4841369599423283200 = 0 by decide]
  obtain ⟨R, hR⟩ : ∃ R, R = nrm r := ⟨_, rfl⟩
  have hRv : R = r.log2 * 4503599627370496 + mant r := by
    rw [hR]
    unfold nrm
    rw [if_pos h]
  have hRi : R < infB := by
    unfold infB
    omega
  obtain ⟨b1, b2, b3, b4⟩ := mant_big (r := R) (by omega)
  rw [← hR]
  refine Eq.trans ?_ ((nearest_taken false hRi).trans (word_f R))
  have e1 : r * 2 ^ 52 = takenM R * 2 ^ r.log2 := by
    rw [b4, show 4503599627370496 + R % 4503599627370496 = mant r by omega, hm, Nat.mul_assoc, ← Nat.pow_add, show 52 - r.log2 + r.log2 = 52 by omega]
  rw [e1]
  refine nearest_scale false ?_ ?_
  · rw [b4]
    omega
  · rw [b3]
    omega
theorem nrm_bits {r : Nat} (h0 : r ≠ 0) : nrm r % 4503599627370496 = mant r - 4503599627370496 ∧ ((nrm r / 4503599627370496 : Nat) : Int) + (if r < 4503599627370496 then -52 else 0) = takenE r + ((takenM r).log2 : Int) + 1 + 1022 ∧ (r < infB → nrm r < infB) ∧ 4503599627370496 ≤ nrm r := by
  have hmr := mant_range h0
  unfold nrm
  by_cases h : r < 4503599627370496
  · obtain ⟨em, ee⟩ := mant_small h
    have hL52 : r.log2 < 52 := (Nat.log2_lt h0).2 h
    rw [if_pos h, if_pos h, em, ee]
    unfold infB
    refine ⟨by omega, by omega, by omega, by omega⟩
  · obtain ⟨b1, b2, b3, b4⟩ := mant_big (r := r) (by omega)
    rw [if_neg h, if_neg h, b2, b3]
    refine ⟨by omega, by omega, fun h => h, by omega⟩

theorem mul_one {v : Nat} (h : v < infB) (h52 : 4503599627370496 ≤ v) : fmul 4607182418800017408 v = v := by
  rw [mul_taken (by decide) h, show takenM 4607182418800017408 = 2 ^ 52 by decide, show takenE 4607182418800017408 = -52 by decide]
  refine Eq.trans ?_ ((nearest_taken false h).trans (word_f v))
  rw [Nat.mul_comm]
  refine nearest_scale false (takenM_pos (by omega)) ?_
  omega

/-- what Ldexp answers, of a float with its leading bit in place -/
def ldx (r : Nat) (n : Int) : Nat := D.nearest false (takenM r) (takenE r + n)
theorem bitLen_53 {m : Nat} (h1 : 4503599627370496 ≤ m) (h2 : m < 9007199254740992) : bitLen m = 53 := by
  rw [bitLen_pos (by omega), log2_is (k := 52) h1 h2]
theorem ldexp_law {r : Nat} {n : Int} (h52 : 4503599627370496 ≤ r) (_ : r < infB) {X : Int} (hX : X = n + ((r / 4503599627370496 : Nat) : Int) - 1023) :
    ldx r n = if X < -1075 then 0 else if 1023 < X then infB else if X < -1022 then fmul 4368491638549381120 ((X + 1076).toNat * 4503599627370496 + r % 4503599627370496) else (X + 1023).toNat * 4503599627370496 + r % 4503599627370496 := by
  obtain ⟨b1, b2, b3, b4⟩ := mant_big h52
  unfold ldx
  have hM1 : 4503599627370496 ≤ takenM r := by omega
  have hM2 : takenM r < 9007199254740992 := taken_lt
  have hb := bitLen_53 hM1 hM2
  have h127 : takenM r < 2 ^ 127 := Nat.lt_trans hM2 (by decide)
  rw [b3, show ((r / 4503599627370496 : Nat) : Int) - 1075 + n = X - 52 by omega]
  by_cases c1 : X < -1075
  · rw [if_pos c1, ← rnd_nearest false (X - 52) (by omega) h127]
    unfold rnd rndR
    have hq : rndQ (takenM r) (X - 52) = -1074 := by
      unfold rndQ
      rw [hb, if_pos (by omega)]
    rw [hq, word_f]
    by_cases c2 : 127 < -1074 - (X - 52)
    · rw [if_pos c2]
    · rw [if_neg c2]
      simp only
      rw [if_neg (show ¬ -1074 - (X - 52) ≤ 0 by omega), if_neg (by omega)]
      obtain ⟨k, hk⟩ : ∃ k, k = (-1074 - (X - 52)).toNat := ⟨_, rfl⟩
      have hk54 : 54 ≤ k := by omega
      rw [← hk]
      have hlt : takenM r < 2 ^ (k - 1) := Nat.lt_of_lt_of_le hM2 (Nat.le_trans (by decide) (Nat.pow_le_pow_right (n := 2) (by decide) (show 53 ≤ k - 1 by omega)))
      have hlt2 : takenM r < 2 ^ k := Nat.lt_of_lt_of_le hlt (Nat.pow_le_pow_right (by decide) (by omega))
      have hz : rndM (takenM r) k false = 0 := by
        unfold rndM
        rw [Nat.div_eq_of_lt hlt2, Nat.mod_eq_of_lt hlt2, if_neg (by omega)]
      rw [hz]
      rfl
  rw [if_neg c1]
  by_cases c2 : 1023 < X
  · rw [if_pos c2, ← rnd_nearest false (X - 52) (by omega) h127]
    unfold rnd rndR
    have hq : rndQ (takenM r) (X - 52) = X - 52 := by
      unfold rndQ
      rw [hb, if_neg (by omega)]
      omega
    rw [hq, word_f, if_neg (by omega)]
    simp only
    rw [if_pos (by omega)]
  rw [if_neg c2]
  by_cases c3 : X < -1022
  · rw [if_pos c3]
    obtain ⟨v, hv⟩ : ∃ v, v = (X + 1076).toNat * 4503599627370496 + r % 4503599627370496 := ⟨_, rfl⟩
    rw [← hv]
    have hvi : v < infB := by
      unfold infB
      omega
    obtain ⟨d1, d2, d3, d4⟩ := mant_big (r := v) (by omega)
    rw [mul_taken (by decide) hvi, show takenM 4368491638549381120 = 2 ^ 52 by decide, show takenE 4368491638549381120 = -105 by decide, d3, d4, b4, Nat.mul_comm]
    refine (Eq.symm ?_)
    rw [show v % 4503599627370496 = r % 4503599627370496 by omega]
    refine nearest_scale false (by omega) ?_
    omega
  · rw [if_neg c3]
    obtain ⟨v, hv⟩ : ∃ v, v = (X + 1023).toNat * 4503599627370496 + r % 4503599627370496 := ⟨_, rfl⟩
    rw [← hv]
    have hvi : v < infB := by
      unfold infB
      omega
    obtain ⟨d1, d2, d3, d4⟩ := mant_big (r := v) (by omega)
    refine Eq.trans ?_ ((nearest_taken false hvi).trans (word_f v))
    rw [d3, d4, b4, show v % 4503599627370496 = r % 4503599627370496 by omega, show ((v / 4503599627370496 : Nat) : Int) - 1075 = X - 52 by omega]

/-- a whole amount with its leading bit in place, as a float, and back -/
theorem whole_float {M : Nat} (h1 : 4503599627370496 ≤ M) (h2 : M < 9007199254740992) : floatToIntVal .f64 (4836865999795912704 + M) .u64 = some (M : Int) := by
  obtain ⟨v, hv⟩ : ∃ v, v = 4836865999795912704 + M := ⟨_, rfl⟩
  rw [← hv]
  have hvi : v < infB := by
    unfold infB
    omega
  have hvs : v % signB = v := Nat.mod_eq_of_lt (by unfold signB; omega)
  obtain ⟨d1, d2, d3, d4⟩ := mant_big (r := v) (by omega)
  have hf : Fin_ v := ⟨by unfold signB; omega, by rw [hvs]; exact hvi⟩
  have hex : ex v = (M : Int) * (Un : Int) := by
    rw [ex_amount, if_neg (by unfold signB; omega), hvs]
    unfold NN
    obtain ⟨e, he, hU⟩ := Un_def
    rw [d4, d3, show 4503599627370496 + v % 4503599627370496 = M by omega, show (((v / 4503599627370496 : Nat) : Int) - 1075 + 1074).toNat = e by omega, hU, Int.natCast_mul]
  have ht := toInt_whole hf hex
  unfold floatToIntVal
  show (match (D.read v).toInt .zero with | some n => _ | none => _) = _
  rw [ht]
  simp only
  rw [if_pos]
  constructor
  · show (0 : Int) ≤ _
    omega
  · show (M : Int) ≤ 18446744073709551615
    omega

theorem odd_unique : ∀ (t u : Nat) {o p : Nat}, o * 2 ^ t = p * 2 ^ u → o % 2 = 1 → p % 2 = 1 → o = p ∧ t = u
  | 0, 0, o, p, h, _, _ => ⟨by simpa using h, rfl⟩
  | 0, u + 1, o, p, h, ho, _ => by
    rw [Nat.pow_zero, Nat.mul_one, Nat.pow_succ, ← Nat.mul_assoc] at h
    omega
  | t + 1, 0, o, p, h, _, hp => by
    rw [Nat.pow_zero, Nat.mul_one, Nat.pow_succ, ← Nat.mul_assoc] at h
    omega
  | t + 1, u + 1, o, p, h, ho, hp => by
    rw [Nat.pow_succ, Nat.pow_succ, ← Nat.mul_assoc, ← Nat.mul_assoc] at h
    obtain ⟨h1, h2⟩ := odd_unique t u (show o * 2 ^ t = p * 2 ^ u by omega) ho hp
    exact ⟨h1, by omega⟩

/-- an amount's odd part, and how often 2 divides it -/
theorem ctz_split {m : Nat} (h0 : m ≠ 0) (h : m < 18446744073709551616) : m = m / 2 ^ Lib.ctz 64 m * 2 ^ Lib.ctz 64 m ∧ m / 2 ^ Lib.ctz 64 m % 2 = 1 ∧ Lib.ctz 64 m < 64 := by
  obtain ⟨q, hq, hk⟩ := Lib.ctzFrom_spec 64 m (by omega) h
  have e : Lib.ctz 64 m = Lib.ctzFrom 64 m := by simp [Lib.ctz, h0]
  rw [e]
  have hd : m / 2 ^ Lib.ctzFrom 64 m = 2 * q + 1 := by
    obtain ⟨c, hc⟩ : ∃ c, c = Lib.ctzFrom 64 m := ⟨_, rfl⟩
    rw [← hc] at hq ⊢
    rw [hq, Nat.mul_div_cancel_left _ (Nat.pow_pos (by decide))]
  rw [hd]
  exact ⟨by rw [Nat.mul_comm]; exact hq, by omega, hk⟩
def oddM (r : Nat) : Nat := takenM r / 2 ^ Lib.ctz 64 (takenM r)
def oddE (r : Nat) : Int := takenE r + (Lib.ctz 64 (takenM r) : Int)
theorem odd_split {r : Nat} (h0 : r ≠ 0) : takenM r = oddM r * 2 ^ Lib.ctz 64 (takenM r) ∧ oddM r % 2 = 1 ∧ Lib.ctz 64 (takenM r) < 64 :=
  ctz_split (Nat.pos_iff_ne_zero.1 (takenM_pos h0)) (Nat.lt_trans taken_lt (by decide))
/-- the same, of the amount with its leading bit in place -/
theorem mant_odd {r : Nat} (h0 : r ≠ 0) : mant r / 2 ^ Lib.ctz 64 (mant r) = oddM r ∧ takenE r + ((takenM r).log2 : Int) + 1 - 53 + (Lib.ctz 64 (mant r) : Int) = oddE r ∧ Lib.ctz 64 (mant r) < 64 := by
  have hmr := mant_range h0
  obtain ⟨s1, s2, s3⟩ := ctz_split (m := mant r) (by omega) (by omega)
  obtain ⟨q1, q2, q3⟩ := odd_split h0
  have hl := log52 h0
  have he : mant r = oddM r * 2 ^ (Lib.ctz 64 (takenM r) + (52 - (takenM r).log2)) := by
    rw [Nat.pow_add, ← Nat.mul_assoc, ← q1]
    rfl
  obtain ⟨u1, u2⟩ := odd_unique _ _ (s1.symm.trans he) s2 q2
  refine ⟨u1, ?_, s3⟩
  unfold oddE
  rw [u2]
  omega

/-- the text of a number -/
def ftext (a : Nat) : List UInt8 :=
  if isN a then [110, 97, 110]
  else (if signB ≤ a then [45] else []) ++ (if a % signB = infB then [105, 110, 102] else if a % signB = 0 then [48] else Lib.decDigits (oddM (a % signB)) ++ 112 :: Lib.itoa (oddE (a % signB)))
theorem ftext_can {a : Nat} : ftext (fcan a) = ftext a := by
  unfold fcan
  by_cases h : isN a = true
  · rw [if_pos h]
    unfold ftext
    rw [if_pos h, if_pos (by decide)]
  · rw [if_neg h]
end Go.Proofs.YtjloiclbknfomaaDoor
