/- Floats, plain: what a sum leaves out is at most half of its last bit (NumNearest). -/
import Derived.Test.YtjloiclbknfomaaDoorIp
set_option maxRecDepth 100000
namespace Go.Proofs.YtjloiclbknfomaaDoor
open Ieee

/-- the value of a rung that is told by its place and its digits -/
theorem NN_of {k q : Nat} (hq : q ≤ 9007199254740992) (hk : k = 0 ∨ 4503599627370496 ≤ q) : NN (k * 4503599627370496 + q) = q * 2 ^ k := by
  unfold NN
  by_cases c : q < 4503599627370496
  · have h0 : k = 0 := by omega
    subst h0
    have e1 : takenE (0 * 4503599627370496 + q) = -1074 := if_pos (by omega)
    have e2 : takenM (0 * 4503599627370496 + q) = q := by
      unfold takenM
      rw [if_pos (by omega), Nat.zero_mul, Nat.zero_add]
    rw [e1, e2]
    rfl
  · by_cases d : q < 9007199254740992
    · have e1 : takenE (k * 4503599627370496 + q) = (k : Int) - 1074 := by
        unfold takenE
        rw [if_neg (by omega)]
        omega
      have e2 : takenM (k * 4503599627370496 + q) = q := by
        unfold takenM
        rw [if_neg (by omega)]
        omega
      rw [e1, e2]
      congr 2
      omega
    · have hq2 : q = 9007199254740992 := by omega
      have e1 : takenE (k * 4503599627370496 + q) = (k : Int) - 1073 := by
        unfold takenE
        rw [if_neg (by omega)]
        omega
      have e2 : takenM (k * 4503599627370496 + q) = 4503599627370496 := by
        unfold takenM
        rw [if_neg (by omega)]
        omega
      rw [e1, e2, hq2, show ((k : Int) - 1073 + 1074).toNat = k + 1 by omega, Nat.pow_succ, Nat.mul_comm (2 ^ k) 2, ← Nat.mul_assoc]

theorem half_near (N k : Nat) : 2 * (half N k * 2 ^ k) ≤ 2 * N + 2 ^ k ∧ 2 * N ≤ 2 * (half N k * 2 ^ k) + 2 ^ k := by
  by_cases hk : k = 0
  · subst hk
    rw [half_zero, Nat.pow_zero, Nat.mul_one]
    omega
  · rw [half_is (by omega)]
    unfold rndM
    have d := Nat.div_add_mod N (2 ^ k)
    have hlt := Nat.mod_lt N (Nat.two_pow_pos k)
    have hp := pow_split (n := k) (by omega)
    rw [Nat.mul_comm] at d
    obtain ⟨r, hr⟩ : ∃ r, r = N % 2 ^ k := ⟨_, rfl⟩
    obtain ⟨Q, hQ⟩ : ∃ Q, Q = N / 2 ^ k := ⟨_, rfl⟩
    obtain ⟨H, hH⟩ : ∃ H, H = 2 ^ (k - 1) := ⟨_, rfl⟩
    obtain ⟨P, hP⟩ : ∃ P, P = 2 ^ k := ⟨_, rfl⟩
    rw [← hr, ← hQ, ← hP] at d
    rw [← hr, ← hP] at hlt
    rw [← hP, ← hH] at hp
    rw [← hr, ← hQ, ← hP, ← hH]
    simp only [Bool.false_eq_true, false_or]
    by_cases c : H < r ∨ r = H ∧ Q % 2 = 1
    · rw [if_pos c, Nat.add_mul, Nat.one_mul]
      omega
    · rw [if_neg c, Nat.add_zero]
      omega

/-- a whole number of the least units, rounded: its place, its digits, and what is left out -/
theorem rung_near {N : Nat} (hN : N ≠ 0) (h : rung N (-1074) < infB) : ∃ k q : Nat, rung N (-1074) = k * 4503599627370496 + q ∧ q ≤ 9007199254740992 ∧ (k = 0 ∨ 4503599627370496 ≤ q) ∧ (k = 0 → q = N) ∧ (0 < k → 2 ^ (52 + k) ≤ N) ∧ 2 * (q * 2 ^ k) ≤ 2 * N + 2 ^ k ∧ 2 * N ≤ 2 * (q * 2 ^ k) + 2 ^ k ∧ N < 2 ^ (53 + k) := by
  have hr := rung_is (p := -1074) hN
  have hl : lastOf N (-1074) = max (N.log2 : Int) 52 - 1126 := by
    unfold lastOf
    omega
  obtain ⟨k, hk⟩ : ∃ k, k = N.log2 - 52 := ⟨_, rfl⟩
  have e1 : (lastOf N (-1074) + 1074).toNat = k := by omega
  have e2 : (-1074 - lastOf N (-1074)).toNat = 0 := by omega
  have e3 : (lastOf N (-1074) - -1074).toNat = k := by omega
  have kl := kept_le N (-1074)
  rw [e2, e3, Nat.pow_zero, Nat.mul_one] at kl
  rw [e1, e2, e3, Nat.pow_zero, Nat.mul_one] at hr
  obtain ⟨n1, n2⟩ := half_near N k
  have l1 := log_le N hN
  have l2 : N < 2 ^ (N.log2 + 1) := Nat.lt_log2_self
  refine ⟨k, half N k, by omega, kl, ?_, ?_, ?_, n1, n2, ?_⟩
  · by_cases h0 : k = 0
    · exact .inl h0
    · right
      have := kept_ge (p := -1074) hN (by omega)
      rw [e2, e3, Nat.pow_zero, Nat.mul_one] at this
      exact this
  · intro h0
    rw [h0, half_zero]
  · intro h0
    rw [show 52 + k = N.log2 by omega]
    exact l1
  · exact Nat.lt_of_lt_of_le l2 (Nat.pow_le_pow_right (by decide) (by omega))

/-- a sum that is finite: its place, its digits, and what it leaves out -/
theorem sum_near {a b : Nat} (ha : Fin_ a) (hb : Fin_ b) (hs : Fin_ (fadd a b)) : ∃ k q : Nat, fadd a b % signB = k * 4503599627370496 + q ∧ q ≤ 9007199254740992 ∧ (k = 0 ∨ 4503599627370496 ≤ q) ∧ (ex (fadd a b)).natAbs = q * 2 ^ k ∧ (k = 0 → ex (fadd a b) = ex a + ex b) ∧ (0 < k → 2 ^ (52 + k) ≤ (ex a + ex b).natAbs) ∧ 2 * (ex (fadd a b) - (ex a + ex b)).natAbs ≤ 2 ^ k ∧ (ex a + ex b).natAbs < 2 ^ (53 + k) := by
  have hv := fval_add ha hb
  obtain ⟨s, hs0⟩ : ∃ s, s = fadd a b := ⟨_, rfl⟩
  obtain ⟨T, hT⟩ : ∃ T, T = ex a + ex b := ⟨_, rfl⟩
  rw [← hs0] at hs hv ⊢
  rw [← hT] at hv ⊢
  have hI := hs.2
  by_cases h0 : T = 0
  · subst h0
    have hr0 : rounds 0 = 0 := by
      unfold rounds
      rw [if_neg (by decide)]
      show ((rung 0 (-1074) : Nat) : Int) = 0
      rw [rung_none]
      rfl
    rw [hr0] at hv
    have hx : s % signB = 0 := by
      unfold fval at hv
      split at hv <;> omega
    have he : ex s = 0 := by
      unfold ex
      rw [exact_NN, hx, NN_zero]
      split <;> rfl
    refine ⟨0, 0, by rw [hx], by decide, .inl rfl, by rw [he]; decide, fun _ => he, fun h => absurd h (by decide), by rw [he]; decide, by decide⟩
  · have hm := rung_mono (v := 1) (w := T.natAbs) (-1074) (by omega)
    rw [rung_one] at hm
    have hx : s % signB = rung T.natAbs (-1074) := by
      unfold rounds fval at hv
      split at hv <;> split at hv <;> omega
    obtain ⟨k, q, r1, r2, r3, r4, r5, r6, r7, r8⟩ := rung_near (N := T.natAbs) (by omega) (by omega)
    have hNN : NN (s % signB) = q * 2 ^ k := by
      rw [hx, r1]
      exact NN_of r2 r3
    have hS : ex s = if T < 0 then -((q * 2 ^ k : Nat) : Int) else ((q * 2 ^ k : Nat) : Int) := by
      unfold ex
      rw [exact_NN, hNN]
      unfold rounds fval at hv
      by_cases c : signB ≤ s
      · rw [decide_eq_true c, if_pos rfl]
        rw [if_pos c] at hv
        split at hv
        · rw [if_pos (by assumption)]
        · omega
      · rw [decide_eq_false c, if_neg (by decide)]
        rw [if_neg c] at hv
        split at hv
        · omega
        · rw [if_neg (by assumption)]
    obtain ⟨V, hV⟩ : ∃ V, V = q * 2 ^ k := ⟨_, rfl⟩
    rw [← hV] at hS r6 r7 hNN
    refine ⟨k, q, by rw [hx, r1], r2, r3, ?_, ?_, r5, ?_, r8⟩
    · rw [← hV, hS]
      split <;> omega
    · intro h
      have e1 := r4 h
      rw [h, Nat.pow_zero, Nat.mul_one] at hV
      rw [hS]
      split <;> omega
    · rw [hS]
      split <;> omega

theorem Rep.upto {m : Nat} {T : Int} (hm : m ≤ 9007199254740992) {k : Nat} (hk : k ≤ 2044) (h : T.natAbs = m * 2 ^ k) : Rep T := by
  by_cases c : m < 9007199254740992
  · exact Rep.of c (by omega) h
  · refine Rep.of (m := 4503599627370496) (by decide) (k := k + 1) (by omega) ?_
    rw [h, show m = 4503599627370496 * 2 by omega, Nat.mul_assoc, Nat.pow_succ, Nat.mul_comm 2]

/-- a finite number as digits at a place -/
theorem ex_digits {a : Nat} (ha : Fin_ a) : ∃ (m : Int) (i : Nat), ex a = m * ((2 ^ i : Nat) : Int) ∧ m.natAbs < 9007199254740992 ∧ i = (takenE (a % signB) + 1074).toNat := by
  refine ⟨if decide (signB ≤ a) = true then -(takenM (a % signB) : Int) else (takenM (a % signB) : Int), (takenE (a % signB) + 1074).toNat, ?_, ?_, rfl⟩
  · unfold ex
    rw [exact_NN]
    unfold NN
    split
    · rw [Int.neg_mul, Int.natCast_mul]
    · rw [Int.natCast_mul]
  · have := taken_lt (r := a % signB)
    split <;> omega

theorem times_lt {m c P : Nat} (h : m * P < c * P) : m < c := Nat.lt_of_mul_lt_mul_right h
theorem abs_mul (m : Int) (P : Nat) : (m * (P : Int)).natAbs = m.natAbs * P := by rw [Int.natAbs_mul, Int.natAbs_natCast]

theorem fin_abs {a : Nat} (ha : Fin_ a) : Fin_ (fabs a) ∧ ex (fabs a) = ((ex a).natAbs : Int) ∧ fabs a = a % signB := by
  have h1 : fabs a = a % signB := by
    unfold fabs
    rw [ha.no, if_neg (by decide)]
  have h2 := ha.2
  have hI := inf_sign
  rw [h1]
  have hm : a % signB % signB = a % signB := Nat.mod_mod _ _
  refine ⟨⟨by omega, by rw [hm]; exact h2⟩, ?_, rfl⟩
  unfold ex
  rw [exact_NN, exact_NN, hm, decide_eq_false (by omega), if_neg (by decide)]
  split <;> omega

/-- what a sum leaves out, and the difference of the sum and the greater one, are told exactly -/
theorem two_sum {A B S : Int} {i j k q : Nat} {m n : Int} (hA : A = m * ((2 ^ i : Nat) : Int)) (hm : m.natAbs < 9007199254740992) (hi : i ≤ 2044)
    (hB : B = n * ((2 ^ j : Nat) : Int)) (hn : n.natAbs < 9007199254740992) (hj : j ≤ i) (hle : B.natAbs ≤ A.natAbs)
    (hS : S.natAbs = q * 2 ^ k) (h0 : k = 0 → S = A + B) (h1 : 0 < k → 2 ^ (52 + k) ≤ (A + B).natAbs) (h2 : 2 * (S - (A + B)).natAbs ≤ 2 ^ k) : Rep (S - A) ∧ Rep (A + B - S) := by
  have rB : Rep B := Rep.of hn (k := j) (by omega) (by rw [hB, abs_mul])
  have r0 : Rep 0 := Rep.of (m := 0) (by decide) (k := 0) (by decide) (by simp)
  obtain ⟨σ, hσ⟩ : ∃ σ : Int, S = σ * ((2 ^ k : Nat) : Int) := by
    by_cases c : 0 ≤ S
    · exact ⟨q, by rw [← Int.natCast_mul, ← hS]; omega⟩
    · exact ⟨-q, by rw [Int.neg_mul, ← Int.natCast_mul, ← hS]; omega⟩
  by_cases hkj : k ≤ j
  · -- the sum is exact
    have hex : S = A + B := by
      by_cases hk0 : k = 0
      · exact h0 hk0
      · obtain ⟨u, hu⟩ : ∃ u, i = k + u := ⟨i - k, by omega⟩
        obtain ⟨v, hv⟩ : ∃ v, j = k + v := ⟨j - k, by omega⟩
        have hd : S - (A + B) = (σ - (m * ((2 ^ u : Nat) : Int) + n * ((2 ^ v : Nat) : Int))) * ((2 ^ k : Nat) : Int) := by
          rw [hσ, hA, hB, hu, hv, Int.sub_mul, Int.add_mul, Int.mul_assoc, Int.mul_assoc, ← Int.natCast_mul, ← Int.natCast_mul, ← Nat.pow_add, ← Nat.pow_add, Nat.add_comm u k, Nat.add_comm v k]
        obtain ⟨w, hw⟩ : ∃ w, w = σ - (m * ((2 ^ u : Nat) : Int) + n * ((2 ^ v : Nat) : Int)) := ⟨_, rfl⟩
        rw [← hw] at hd
        rw [hd, abs_mul] at h2
        have hp := Nat.two_pow_pos k
        have : w.natAbs < 1 := times_lt (P := 2 ^ k) (by omega)
        have hw0 : w = 0 := by omega
        rw [hw0, Int.zero_mul] at hd
        omega
    rw [hex]
    refine ⟨?_, ?_⟩
    · rw [show A + B - A = B by omega]
      exact rB
    · rw [Int.sub_self]
      exact r0
  · have hk1 : 0 < k := by omega
    have g1 := h1 hk1
    have tri1 : (S - A).natAbs ≤ B.natAbs + (S - (A + B)).natAbs := by omega
    have hAabs : A.natAbs = m.natAbs * 2 ^ i := by rw [hA, abs_mul]
    have hBabs : B.natAbs = n.natAbs * 2 ^ j := by rw [hB, abs_mul]
    obtain ⟨t, ht⟩ : ∃ t, k = j + 1 + t := ⟨k - j - 1, by omega⟩
    have hpj := Nat.two_pow_pos j
    have hpk := Nat.two_pow_pos k
    have hpi := Nat.two_pow_pos i
    have hjk : 2 * 2 ^ j ≤ 2 ^ k := by
      rw [Nat.mul_comm, ← Nat.pow_succ]
      exact Nat.pow_le_pow_right (by decide) (by omega)
    -- what is left out is a multiple of the lesser one's place
    have hmult : ∃ ν : Int, A + B - S = ν * ((2 ^ j : Nat) : Int) := by
      obtain ⟨u, hu⟩ : ∃ u, i = j + u := ⟨i - j, by omega⟩
      obtain ⟨v, hv⟩ : ∃ v, k = j + v := ⟨k - j, by omega⟩
      refine ⟨m * ((2 ^ u : Nat) : Int) + n - σ * ((2 ^ v : Nat) : Int), ?_⟩
      rw [hσ, hA, hB, hu, hv, Int.sub_mul, Int.add_mul, Int.mul_assoc, Int.mul_assoc, ← Int.natCast_mul, ← Int.natCast_mul, ← Nat.pow_add, ← Nat.pow_add, Nat.add_comm u j, Nat.add_comm v j]
    obtain ⟨ν, hν⟩ := hmult
    have small : (S - (A + B)).natAbs ≤ B.natAbs → Rep (A + B - S) := by
      intro h
      have e1 : (A + B - S).natAbs = ν.natAbs * 2 ^ j := by rw [hν, abs_mul]
      refine Rep.of (m := ν.natAbs) ?_ (k := j) (by omega) e1
      have e2 : ν.natAbs * 2 ^ j ≤ n.natAbs * 2 ^ j := by
        rw [← e1, ← hBabs]
        omega
      exact Nat.lt_of_le_of_lt (Nat.le_of_mul_le_mul_right e2 hpj) hn
    by_cases hki : k ≤ i
    · obtain ⟨u, hu⟩ : ∃ u, i = k + u := ⟨i - k, by omega⟩
      have hd : S - A = (σ - m * ((2 ^ u : Nat) : Int)) * ((2 ^ k : Nat) : Int) := by
        rw [hσ, hA, hu, Int.sub_mul, Int.mul_assoc, ← Int.natCast_mul, ← Nat.pow_add, Nat.add_comm u k]
      obtain ⟨μ, hμ⟩ : ∃ μ, μ = σ - m * ((2 ^ u : Nat) : Int) := ⟨_, rfl⟩
      rw [← hμ] at hd
      have e1 : (S - A).natAbs = μ.natAbs * 2 ^ k := by rw [hd, abs_mul]
      refine ⟨Rep.of (m := μ.natAbs) ?_ (k := k) (by omega) e1, ?_⟩
      · refine times_lt (P := 2 ^ k) ?_
        have e2 : 2 * (n.natAbs * 2 ^ j) ≤ 9007199254740992 * 2 ^ k := by
          calc 2 * (n.natAbs * 2 ^ j) = n.natAbs * (2 * 2 ^ j) := Nat.mul_left_comm _ _ _
            _ ≤ 9007199254740992 * 2 ^ k := Nat.mul_le_mul (by omega) hjk
        rw [← e1]
        omega
      · by_cases hb : 2 ^ k ≤ 2 * B.natAbs
        · exact small (by omega)
        · have e2 : μ.natAbs < 1 := times_lt (P := 2 ^ k) (by omega)
          have e3 : μ = 0 := by omega
          rw [e3, Int.zero_mul] at hd
          rw [show A + B - S = B by omega]
          exact rB
    · have hA2 : A.natAbs < 9007199254740992 * 2 ^ i := by
        rw [hAabs]
        exact Nat.mul_lt_mul_of_pos_right hm hpi
      have hlog : k ≤ i + 1 := by
        have e1 : 2 ^ (52 + k) < 2 ^ (54 + i) := by
          have : 2 ^ (54 + i) = 2 * (9007199254740992 * 2 ^ i) := by
            rw [Nat.pow_add, ← Nat.mul_assoc]
          omega
        have := (Nat.pow_lt_pow_iff_right (a := 2) (by decide)).1 e1
        omega
      have hk : k = i + 1 := by omega
      have hpk2 : 2 ^ k = 2 * 2 ^ i := by rw [hk, Nat.pow_succ, Nat.mul_comm]
      have hd : S - A = (σ * 2 - m) * ((2 ^ i : Nat) : Int) := by
        rw [hσ, hA, hpk2, Int.sub_mul, Int.natCast_mul, Int.mul_assoc]
        rfl
      have e1 : (S - A).natAbs = (σ * 2 - m).natAbs * 2 ^ i := by rw [hd, abs_mul]
      have hji : 2 ^ j ≤ 2 ^ i := Nat.pow_le_pow_right (by decide) hj
      refine ⟨Rep.upto (m := (σ * 2 - m).natAbs) ?_ hi e1, ?_⟩
      · have e2 : n.natAbs * 2 ^ j ≤ 9007199254740991 * 2 ^ i := Nat.mul_le_mul (by omega) hji
        have e3 : (σ * 2 - m).natAbs * 2 ^ i < 9007199254740993 * 2 ^ i := by
          rw [← e1]
          omega
        have := times_lt e3
        omega
      · by_cases hb : 2 ^ i ≤ B.natAbs
        · exact small (by omega)
        · exfalso
          have e2 : A.natAbs ≤ 9007199254740991 * 2 ^ i := by
            rw [hAabs]
            exact Nat.mul_le_mul_right _ (by omega)
          have e3 : 2 ^ (52 + k) = 9007199254740992 * 2 ^ i := by
            rw [hk, show 52 + (i + 1) = 53 + i by omega, Nat.pow_add]
          omega

theorem near_twice {x s : Int} {p : Nat} (h : 2 * (s - x).natAbs ≤ p) : ((x - s).natAbs : Int) + ((x - s).natAbs : Int) ≤ (p : Int) := by omega

/-- NumNearest, the greater one first -/
theorem nearest_half {a b : Nat} (ha : Fin_ a) (hb : Fin_ b) (hlt : a % signB < 9209861237972664320) (hle : b % signB ≤ a % signB) (fs : Fin_ (fadd a b)) (hfrac : fadd a b % signB % 4503599627370496 ≠ 0) :
    fless (fsub (fabs (fadd a b)) (fabs (fadd a b) - 1)) (fadd (fabs (fsub b (fsub (fadd a b) a))) (fabs (fsub b (fsub (fadd a b) a)))) = false := by
  obtain ⟨k, q, s1, s2, s3, s4, s5, s6, s7, s8⟩ := sum_near ha hb fs
  obtain ⟨m, i, a1, a2, a3⟩ := ex_digits ha
  obtain ⟨n, j, b1, b2, b3⟩ := ex_digits hb
  have hEi : i ≤ 2044 := by
    rw [a3]
    unfold takenE
    split <;> omega
  have hji : j ≤ i := by
    have := takenE_mono hle
    omega
  have habs : (ex b).natAbs ≤ (ex a).natAbs := by
    have e := (NN_le hb.2 ha.2).2 hle
    have ea : (ex a).natAbs = NN (a % signB) := by
      unfold ex
      rw [exact_NN]
      split <;> omega
    have eb : (ex b).natAbs = NN (b % signB) := by
      unfold ex
      rw [exact_NN]
      split <;> omega
    omega
  obtain ⟨r1, r2⟩ := two_sum a1 a2 hEi b1 b2 hji habs s4 s5 s6 s7
  obtain ⟨s, hs⟩ : ∃ s, s = fadd a b := ⟨_, rfl⟩
  rw [← hs] at s1 s4 s5 s7 r1 r2 fs hfrac ⊢
  obtain ⟨d1, d2⟩ := ex_exact (fsub_lt s a).1 (fval_sub fs ha) r1
  have hl := fval_sub hb d1
  rw [d2, show ex b - (ex s - ex a) = ex a + ex b - ex s by omega] at hl
  obtain ⟨l1, l2⟩ := ex_exact (fsub_lt b (fsub s a)).1 hl r2
  obtain ⟨t1, t2, _⟩ := fin_abs l1
  have hdbl := fval_add t1 t1
  obtain ⟨u1, u2, u3⟩ := fin_abs fs
  -- the gap below the sum
  have hq : k = 0 ∧ q ≠ 0 ∧ q < 9007199254740992 ∨ 4503599627370496 < q ∧ q < 9007199254740992 := by omega
  have hbelow : fabs s - 1 = k * 4503599627370496 + (q - 1) := by
    rw [u3]
    omega
  have hbI : fabs s - 1 < infB := by
    have := u1.2
    have := fs.2
    omega
  have hI := inf_sign
  have fb1 : Fin_ (fabs s - 1) := ⟨by omega, by rw [Nat.mod_eq_of_lt (by omega)]; exact hbI⟩
  have eb1 : ex (fabs s - 1) = (((q - 1) * 2 ^ k : Nat) : Int) := by
    have h1 : fabs s - 1 = D.word false (fabs s - 1) := (word_false _).symm
    rw [h1, ex_word false hbI, if_neg (by decide), hbelow, NN_of (by omega) (by omega)]
  have hgap : ex (fabs s) - ex (fabs s - 1) = ((2 ^ k : Nat) : Int) := by
    rw [u2, s4, eb1]
    obtain ⟨p, rfl⟩ : ∃ p, q = p + 1 := ⟨q - 1, by omega⟩
    rw [Nat.add_sub_cancel, Nat.add_mul, Nat.one_mul]
    omega
  have hlast := fval_sub u1 fb1
  rw [hgap] at hlast
  have hmono : fval (fadd (fabs (fsub b (fsub s a))) (fabs (fsub b (fsub s a)))) ≤ fval (fsub (fabs s) (fabs s - 1)) := by
    rw [hdbl, hlast, t2, l2]
    exact rounds_mono (near_twice s7)
  rw [fless_val (fsub_lt _ _).1 (fadd_lt _ _).1, decide_eq_false (Int.not_lt.2 hmono), Bool.and_false]
end Go.Proofs.YtjloiclbknfomaaDoor
