/- Floats, plain: floors, whole numbers, how two stand. -/
import Derived.Test.YtjloiclbknfomaaDoorIq
set_option maxRecDepth 100000
namespace Go.Proofs.YtjloiclbknfomaaDoor
open Ieee

/-- the number nearest to a whole one -/
def fof (n : Int) : Nat := D.nearest (decide (n < 0)) n.natAbs 0
def rOf (n : Int) : Nat := if n = 0 then 0 else rnd (decide (n < 0)) n.natAbs 0 false
theorem fof_eq {n : Int} (h : -9223372036854775808 ≤ n ∧ n ≤ 9223372036854775807) : fof n = rOf n := by
  unfold fof rOf
  by_cases h0 : n = 0
  · subst h0
    rw [if_pos rfl]
    exact nearest_none _ _
  · rw [if_neg h0]
    have h127 : 9223372036854775808 < 2 ^ 127 := by decide
    exact (rnd_nearest _ _ (by omega) (by omega)).symm

/-- the floor -/
def ffloor (a : Nat) : Nat := if isN a then nanB else D.write ((D.read a).integral .down)

def floorN (s : Bool) (m k : Nat) : Nat := m / 2 ^ k + (if s = true ∧ m % 2 ^ k ≠ 0 then 1 else 0)

theorem cut_down (s : Bool) (m k : Nat) : Toward.down.cut s m k = floorN s m k := by
  unfold Toward.cut floorN
  simp only [Nat.one_shiftLeft]
  by_cases hle : k ≤ m.log2 + 2
  · rw [Nat.min_eq_left hle]
    congr 1
    cases s
    · simp
    · by_cases h : m % 2 ^ k = 0
      · simp [h]
      · simp [h]
  · rw [Nat.min_eq_right (by omega)]
    have h1 : m < 2 ^ (m.log2 + 1) := Nat.lt_log2_self
    have h2 : 2 ^ (m.log2 + 1) ≤ 2 ^ (m.log2 + 2) := Nat.pow_le_pow_right (by decide) (by omega)
    have h3 : 2 ^ (m.log2 + 2) ≤ 2 ^ k := Nat.pow_le_pow_right (by decide) (by omega)
    have w1 : m < 2 ^ (m.log2 + 2) := by omega
    have w2 : m < 2 ^ k := by omega
    rw [Nat.div_eq_of_lt w1, Nat.mod_eq_of_lt w1, Nat.div_eq_of_lt w2, Nat.mod_eq_of_lt w2]
    congr 1
    cases s
    · simp
    · by_cases h : m = 0
      · simp [h]
      · simp [h]

/-- the document's floor -/
def rFloor (a : Nat) : Nat :=
  if isN a then nanB
  else if a % signB = infB ∨ a % signB = 0 then a
  else if 0 ≤ takenE (a % signB) then a
  else if floorN (decide (signB ≤ a)) (takenM (a % signB)) (-takenE (a % signB)).toNat = 0 then 0
  else rnd (decide (signB ≤ a)) (floorN (decide (signB ≤ a)) (takenM (a % signB)) (-takenE (a % signB)).toNat) 0 false

theorem floorN_lt {s : Bool} {m k : Nat} (hm : m < 9007199254740992) : floorN s m k < 2 ^ 127 := by
  unfold floorN
  have h1 := Nat.div_le_self m (2 ^ k)
  have h2 : 9007199254740993 < 2 ^ 127 := by decide
  split <;> omega

theorem floorN_zero {m k : Nat} (h : floorN true m k = 0) : m = 0 := by
  unfold floorN at h
  obtain ⟨h3, h4⟩ := Nat.add_eq_zero_iff.1 h
  have h1 : m % 2 ^ k = 0 := by
    by_cases c : m % 2 ^ k = 0
    · exact c
    · rw [if_pos ⟨rfl, c⟩] at h4
      cases h4
  have h2 := Nat.div_add_mod m (2 ^ k)
  rw [h3, h1, Nat.mul_zero] at h2
  exact h2.symm
theorem floorN_none (s : Bool) (k : Nat) : floorN s 0 k = 0 := by
  unfold floorN
  rw [Nat.zero_div, Nat.zero_mod, if_neg (by simp)]

theorem ffloor_eq {a : Nat} (ha : a < 2 * signB) : ffloor a = rFloor a := by
  unfold ffloor rFloor
  by_cases hn : isN a = true
  · rw [if_pos hn, if_pos hn]
  · rw [if_neg hn, if_neg hn]
    have hn2 : ¬ infB < a % signB := fun h => hn (decide_eq_true h)
    obtain ⟨wa, la⟩ := word_of ha
    obtain ⟨s, hs⟩ : ∃ s, s = decide (signB ≤ a) := ⟨_, rfl⟩
    obtain ⟨x, hx⟩ : ∃ x, x = a % signB := ⟨_, rfl⟩
    rw [← hs, ← hx] at wa
    rw [← hx] at la hn2
    rw [← hx, ← hs]
    by_cases hxi : x = infB
    · rw [if_pos (.inl hxi), wa, hxi, read_inf]
      show D.word s D.infRung = _
      rw [D_inf]
      rfl
    · rw [show D.read a = D.read (D.word s x) by rw [← wa], read_num s (by omega)]
      show D.nearest s (Toward.down.cut s (takenM x <<< (takenE x).toNat) (-takenE x).toNat) 0 = _
      rw [cut_down]
      by_cases hx0 : x = 0
      · rw [if_pos (.inr hx0), wa, hx0]
        rw [(takenM_zero 0).2 rfl, Nat.zero_shiftLeft, floorN_none, nearest_none]
      · rw [if_neg (by omega)]
        by_cases he : 0 ≤ takenE x
        · rw [if_pos he, show (-takenE x).toNat = 0 by omega, Nat.shiftLeft_eq]
          have h1 : floorN s (takenM x * 2 ^ (takenE x).toNat) 0 = takenM x * 2 ^ (takenE x).toNat := by
            unfold floorN
            rw [Nat.pow_zero, Nat.div_one, Nat.mod_one, if_neg (by simp)]
            rfl
          rw [h1, nearest_scale s (e := takenE x) (takenM_pos hx0) (by omega), nearest_taken s (by omega), wa]
        · rw [if_neg he, show (takenE x).toNat = 0 by omega, Nat.shiftLeft_zero]
          by_cases h0 : floorN s (takenM x) (-takenE x).toNat = 0
          · rw [if_pos h0, h0, nearest_none]
            have hsf : s = false := by
              cases s
              · rfl
              · exfalso
                have := takenM_pos hx0
                have := floorN_zero h0
                omega
            rw [hsf]
            rfl
          · rw [if_neg h0]
            exact (rnd_nearest _ _ h0 (floorN_lt taken_lt)).symm

/-! ### How two stand -/
def fval (a : Nat) : Int := if signB ≤ a then -((a % signB : Nat) : Int) else ((a % signB : Nat) : Int)

theorem cmp_same {p q p' q' : Int} (h1 : p < q ↔ p' < q') (h2 : p = q ↔ p' = q') : compare p q = compare p' q' := by
  simp only [compare, compareOfLessAndEq, h1, h2]

/-- the amounts of two rungs, at the lesser place -/
theorem amounts (x y : Nat) : (takenM x * 2 ^ (takenE x - min (takenE x) (takenE y)).toNat < takenM y * 2 ^ (takenE y - min (takenE x) (takenE y)).toNat ↔ x < y) ∧
    (takenM x * 2 ^ (takenE x - min (takenE x) (takenE y)).toNat = takenM y * 2 ^ (takenE y - min (takenE x) (takenE y)).toNat ↔ x = y) := by
  have lt : ∀ x y : Nat, x < y → takenM x * 2 ^ (takenE x - min (takenE x) (takenE y)).toNat < takenM y * 2 ^ (takenE y - min (takenE x) (takenE y)).toNat := by
    intro x y h
    have hmono := takenE_mono (Nat.le_of_lt h)
    rw [Int.min_eq_left hmono, Int.sub_self, Int.toNat_zero, Nat.pow_zero, Nat.mul_one]
    exact taken_mono h (by omega)
  rcases Nat.lt_trichotomy x y with h | h | h
  · have := lt x y h
    exact ⟨⟨fun _ => h, fun _ => this⟩, ⟨fun e => by omega, fun e => by omega⟩⟩
  · subst h
    exact ⟨⟨fun e => by omega, fun e => by omega⟩, ⟨fun _ => rfl, fun _ => rfl⟩⟩
  · have := lt y x h
    rw [Int.min_comm] at this
    exact ⟨⟨fun e => by omega, fun e => by omega⟩, ⟨fun e => by omega, fun e => by omega⟩⟩

theorem amount_zero (x d : Nat) : takenM x * 2 ^ d = 0 ↔ x = 0 := by
  have := Nat.two_pow_pos d
  rw [Nat.mul_eq_zero, takenM_zero]
  omega

theorem word_val (s : Bool) {x : Nat} (h : x < signB) : fval (D.word s x) = if s = true then -(x : Int) else (x : Int) := by
  unfold fval
  rw [word_mod s h]
  unfold Format.word
  rw [D_sw]
  unfold signB at *
  cases s
  · simp
    omega
  · simp

theorem order_val {a b : Nat} (ha : a < 2 * signB) (hb : b < 2 * signB) (hna : isN a = false) (hnb : isN b = false) : D.order a b = some (compare (fval a) (fval b)) := by
  obtain ⟨wa, la⟩ := word_of ha
  obtain ⟨wb, lb⟩ := word_of hb
  have na : ¬ infB < a % signB := of_decide_eq_false hna
  have nb : ¬ infB < b % signB := of_decide_eq_false hnb
  generalize decide (signB ≤ a) = s at wa
  generalize decide (signB ≤ b) = t at wb
  generalize a % signB = x at wa la na
  generalize b % signB = y at wb lb nb
  subst wa wb
  rw [word_val s la, word_val t lb]
  unfold Format.order
  by_cases hxi : x = infB
  · by_cases hyi : y = infB
    · subst hxi hyi
      rw [read_inf, read_inf]
      simp only [Datum.order]
      cases s <;> cases t <;> decide
    · rw [hxi, read_inf, read_num t (by omega)]
      simp only [Datum.order]
      congr 1
      have h1 : y < infB := by omega
      generalize infB = I at h1
      cases s
      · simp only [Bool.false_eq_true, if_false]
        symm
        rw [Int.compare_eq_gt]
        cases t <;> simp <;> omega
      · simp only [if_true]
        symm
        rw [Int.compare_eq_lt]
        cases t <;> simp <;> omega
  · by_cases hyi : y = infB
    · rw [hyi, read_inf, read_num s (by omega)]
      simp only [Datum.order]
      congr 1
      have h1 : x < infB := by omega
      generalize infB = I at h1
      cases t
      · simp only [Bool.false_eq_true, if_false]
        symm
        rw [Int.compare_eq_lt]
        cases s <;> simp <;> omega
      · simp only [if_true]
        symm
        rw [Int.compare_eq_gt]
        cases s <;> simp <;> omega
    · rw [read_num s (by omega), read_num t (by omega)]
      simp only [Datum.order]
      congr 1
      obtain ⟨am1, am2⟩ := amounts x y
      rw [signed_up, signed_up]
      have z1 := amount_zero x (takenE x - min (takenE x) (takenE y)).toNat
      have z2 := amount_zero y (takenE y - min (takenE x) (takenE y)).toNat
      generalize takenM x * 2 ^ (takenE x - min (takenE x) (takenE y)).toNat = X at am1 am2 z1
      generalize takenM y * 2 ^ (takenE y - min (takenE x) (takenE y)).toNat = Y at am1 am2 z2
      refine cmp_same ?_ ?_
      · cases s <;> cases t <;> simp only [Bool.false_eq_true, if_false, if_true] <;> omega
      · cases s <;> cases t <;> simp only [Bool.false_eq_true, if_false, if_true] <;> omega
end Go.Proofs.YtjloiclbknfomaaDoor
