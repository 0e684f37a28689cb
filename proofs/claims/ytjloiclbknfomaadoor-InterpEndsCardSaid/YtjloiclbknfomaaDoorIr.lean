/- Floats, plain: how the document rounds is how IEEE 754 rounds. -/
import Derived.Test.YtjloiclbknfomaaDoorIe
set_option maxRecDepth 100000
namespace Go.Proofs.YtjloiclbknfomaaDoor
open Ieee

/-- how many bits a number has -/
def bitLen (n : Nat) : Nat := if n = 0 then 0 else n.log2 + 1

/-- what the document tells of w 2^e, and something less than 2^e more, if there is a rest -/
def rndQ (w : Nat) (e : Int) : Int := if e + (bitLen w : Int) - 53 < -1074 then -1074 else e + (bitLen w : Int) - 53
def rndM (w n : Nat) (rest : Bool) : Nat := w / 2 ^ n + (if 2 ^ (n - 1) < w % 2 ^ n ∨ (w % 2 ^ n = 2 ^ (n - 1) ∧ (rest = true ∨ w / 2 ^ n % 2 = 1)) then 1 else 0)
def rndR (w : Nat) (e : Int) (rest : Bool) : Nat :=
  if 127 < rndQ w e - e then 0
  else
    let m := if rndQ w e - e ≤ 0 then w * 2 ^ (e - rndQ w e).toNat else rndM w (rndQ w e - e).toNat rest
    if 971 < rndQ w e then infB else if infB ≤ (rndQ w e + 1074).toNat * 4503599627370496 + m then infB else (rndQ w e + 1074).toNat * 4503599627370496 + m
def rnd (s : Bool) (w : Nat) (e : Int) (rest : Bool) : Nat := D.word s (rndR w e rest)

theorem cut_even (s : Bool) (n drop : Nat) : Toward.even.cut s n drop = n / 2 ^ min drop (n.log2 + 2) + (if 2 ^ min drop (n.log2 + 2) < 2 * (n % 2 ^ min drop (n.log2 + 2)) ∨ (2 ^ min drop (n.log2 + 2) = 2 * (n % 2 ^ min drop (n.log2 + 2)) ∧ n / 2 ^ min drop (n.log2 + 2) % 2 = 1) then 1 else 0) := by
  unfold Toward.cut
  simp only [Nat.one_shiftLeft]
  congr 1
  split
  · rename_i h
    rcases h with h | ⟨h1, h2⟩
    · simp [h]
    · rw [← h1]
      simp [h2]
  · rename_i h
    rw [not_or, not_and] at h
    obtain ⟨h1, h2⟩ := h
    have e1 : decide (2 ^ min drop (n.log2 + 2) < 2 * (n % 2 ^ min drop (n.log2 + 2))) = false := decide_eq_false h1
    rw [e1]
    by_cases h3 : 2 ^ min drop (n.log2 + 2) = 2 * (n % 2 ^ min drop (n.log2 + 2))
    · have := h2 h3
      have e2 : (n / 2 ^ min drop (n.log2 + 2) % 2 == 1) = false := by rw [beq_eq_false_iff_ne]; exact this
      simp [e2]
    · have e3 : (2 ^ min drop (n.log2 + 2) == 2 * (n % 2 ^ min drop (n.log2 + 2))) = false := by rw [beq_eq_false_iff_ne]; exact h3
      simp [e3]

theorem pow_split {n : Nat} (h : 0 < n) : 2 ^ n = 2 * 2 ^ (n - 1) := by
  obtain ⟨k, rfl⟩ : ∃ k, n = k + 1 := ⟨n - 1, by omega⟩
  rw [Nat.pow_succ, Nat.add_sub_cancel, Nat.mul_comm]

/-- the cut is the document's, without a rest -/
theorem cut_rnd (s : Bool) {w n : Nat} (hn : 0 < n) : Toward.even.cut s w n = rndM w n false := by
  rw [cut_even]
  unfold rndM
  have hlog := Nat.lt_log2_self (n := w)
  by_cases h : n ≤ w.log2 + 2
  · rw [Nat.min_eq_left h, pow_split hn]
    congr 1
    have e1 : (2 * 2 ^ (n - 1) < 2 * (w % (2 * 2 ^ (n - 1))) ∨ 2 * 2 ^ (n - 1) = 2 * (w % (2 * 2 ^ (n - 1))) ∧ w / (2 * 2 ^ (n - 1)) % 2 = 1) ↔ (2 ^ (n - 1) < w % (2 * 2 ^ (n - 1)) ∨ (w % (2 * 2 ^ (n - 1)) = 2 ^ (n - 1) ∧ (false = true ∨ w / (2 * 2 ^ (n - 1)) % 2 = 1))) := by
      constructor
      · rintro (h | ⟨h1, h2⟩)
        · left; omega
        · right; exact ⟨by omega, .inr h2⟩
      · rintro (h | ⟨h1, h2 | h2⟩)
        · left; omega
        · cases h2
        · right; exact ⟨by omega, h2⟩
    by_cases h2 : (2 ^ (n - 1) < w % (2 * 2 ^ (n - 1)) ∨ (w % (2 * 2 ^ (n - 1)) = 2 ^ (n - 1) ∧ (false = true ∨ w / (2 * 2 ^ (n - 1)) % 2 = 1)))
    · rw [if_pos h2, if_pos (e1.2 h2)]
    · rw [if_neg h2, if_neg (fun h => h2 (e1.1 h))]
  · have hle : w.log2 + 2 ≤ n - 1 := by omega
    have hp : 2 ^ (w.log2 + 2) ≤ 2 ^ (n - 1) := Nat.pow_le_pow_right (by decide) hle
    have hp2 : 2 ^ (n - 1) ≤ 2 ^ n := Nat.pow_le_pow_right (by decide) (by omega)
    have h4 : 2 ^ (w.log2 + 2) = 2 * 2 ^ (w.log2 + 1) := by rw [Nat.pow_succ, Nat.mul_comm]
    have h3 : w < 2 ^ (w.log2 + 1) := hlog
    have hw2 : w < 2 ^ n := by omega
    have hw3 : w < 2 ^ (w.log2 + 2) := by omega
    rw [Nat.min_eq_right (by omega), Nat.div_eq_of_lt hw3, Nat.mod_eq_of_lt hw3, Nat.div_eq_of_lt hw2, Nat.mod_eq_of_lt hw2]
    rw [if_neg (by omega), if_neg (by omega)]

theorem cut_zero (s : Bool) (n : Nat) : Toward.even.cut s n 0 = n := by
  rw [cut_even, Nat.min_eq_left (by omega), Nat.pow_zero, Nat.div_one, Nat.mod_one]
  simp

theorem bitLen_pos {w : Nat} (h : w ≠ 0) : bitLen w = w.log2 + 1 := if_neg h

theorem log_le (w : Nat) (h : w ≠ 0) : 2 ^ w.log2 ≤ w := Nat.log2_self_le h

/-- how the document rounds, where nothing is left over -/
theorem rnd_nearest (s : Bool) {w : Nat} (e : Int) (hw : w ≠ 0) (hb : w < 2 ^ 127) : rnd s w e false = D.nearest s w e := by
  have hbl := bitLen_pos hw
  have hl : w.log2 < 127 := (Nat.log2_lt hw).2 hb
  have hlast : max (e + (w.log2 : Int) - (D.fractionBits : Int)) D.leastPlace = rndQ w e := by
    unfold rndQ
    rw [hbl, D_least, show (D.fractionBits : Int) = 52 from rfl]
    split
    · rw [Int.max_eq_right (by omega)]
    · rw [Int.max_eq_left (by omega)]
      omega
  unfold rnd Format.nearest
  rw [if_neg hw]
  simp only [hlast]
  simp only [D_least, D_bin, D_inf]
  congr 1
  have hq : -1074 ≤ rndQ w e := by
    unfold rndQ
    split <;> omega
  unfold rndR
  rw [Int.sub_neg]
  by_cases h1 : rndQ w e - e ≤ 0
  · rw [if_neg (by omega), if_pos h1]
    rw [show (rndQ w e - e).toNat = 0 by omega, cut_zero, Nat.shiftLeft_eq]
    by_cases h2 : 971 < rndQ w e
    · rw [if_pos h2]
      have hge : 4503599627370496 ≤ w * 2 ^ (e - rndQ w e).toNat := by
        have hk : (e - rndQ w e).toNat = 52 - w.log2 := by
          unfold rndQ at h2 ⊢
          rw [hbl] at h2 ⊢
          split
          · rename_i h3
            rw [if_pos h3] at h2
            omega
          · omega
        have hl52 : w.log2 ≤ 52 := by
          unfold rndQ at h1 h2
          rw [hbl] at h1 h2
          split at h1
          · rename_i h3
            rw [if_pos h3] at h2
            omega
          · omega
        rw [hk]
        calc 4503599627370496 = 2 ^ w.log2 * 2 ^ (52 - w.log2) := by rw [← Nat.pow_add, show w.log2 + (52 - w.log2) = 52 by omega]
          _ ≤ w * 2 ^ (52 - w.log2) := Nat.mul_le_mul_right _ (log_le w hw)
      have : 9218868437227405312 ≤ (rndQ w e + 1074).toNat * 4503599627370496 + w * 2 ^ (e - rndQ w e).toNat := by omega
      rw [Nat.min_eq_right this]
      rfl
    · rw [if_neg h2]
      unfold infB
      split
      · rename_i h3
        rw [Nat.min_eq_right h3]
      · rename_i h3
        rw [Nat.min_eq_left (by omega)]
  · rw [if_neg h1]
    rw [show (e - rndQ w e).toNat = 0 by omega, Nat.shiftLeft_zero, cut_rnd s (by omega)]
    by_cases h0 : 127 < rndQ w e - e
    · rw [if_pos h0]
      have hqq : rndQ w e = -1074 := by
        unfold rndQ at h0 ⊢
        rw [hbl] at h0 ⊢
        split
        · rfl
        · rename_i h3
          rw [if_neg h3] at h0
          omega
      have hm : rndM w (rndQ w e - e).toNat false = 0 := by
        obtain ⟨n, hn⟩ : ∃ n, n = (rndQ w e - e).toNat := ⟨_, rfl⟩
        have hn127 : 127 ≤ n - 1 := by omega
        rw [← hn]
        unfold rndM
        have hp : 2 ^ 127 ≤ 2 ^ (n - 1) := Nat.pow_le_pow_right (by decide) hn127
        have hp2 : 2 ^ (n - 1) ≤ 2 ^ n := Nat.pow_le_pow_right (by decide) (by omega)
        rw [Nat.div_eq_of_lt (by omega), Nat.mod_eq_of_lt (by omega), if_neg (by omega)]
      rw [hm, hqq]
      rfl
    · rw [if_neg h0]
      by_cases h2 : 971 < rndQ w e
      · rw [if_pos h2]
        have hk : (rndQ w e - e).toNat = w.log2 - 52 := by
          unfold rndQ at h2 ⊢
          rw [hbl] at h2 ⊢
          split
          · rename_i h3
            rw [if_pos h3] at h2
            omega
          · omega
        have hl52 : 52 ≤ w.log2 := by omega
        have hge : 4503599627370496 ≤ rndM w (rndQ w e - e).toNat false := by
          rw [hk]
          unfold rndM
          have : 4503599627370496 ≤ w / 2 ^ (w.log2 - 52) := by
            rw [Nat.le_div_iff_mul_le (Nat.two_pow_pos _)]
            calc 4503599627370496 * 2 ^ (w.log2 - 52) = 2 ^ w.log2 := by rw [show (4503599627370496 : Nat) = 2 ^ 52 by decide, ← Nat.pow_add, show 52 + (w.log2 - 52) = w.log2 by omega]
              _ ≤ w := log_le w hw
          omega
        have : 9218868437227405312 ≤ (rndQ w e + 1074).toNat * 4503599627370496 + rndM w (rndQ w e - e).toNat false := by omega
        rw [Nat.min_eq_right this]
        rfl
      · rw [if_neg h2]
        unfold infB
        split
        · rename_i h3
          rw [Nat.min_eq_right h3]
        · rename_i h3
          rw [Nat.min_eq_left (by omega)]

/-! ### The sum -/
/-- an amount, as the document takes it -/
def takenM (r : Nat) : Nat := if r < 4503599627370496 then r else 4503599627370496 + r % 4503599627370496
def takenE (r : Nat) : Int := if r < 4503599627370496 then -1074 else (r / 4503599627370496 : Nat) - 1075

theorem read_num (s : Bool) {r : Nat} (h : r < infB) : D.read (D.word s r) = .number s (takenM r) (takenE r) := by
  rw [read_word s r (Nat.lt_trans h (by decide))]
  unfold takenM takenE
  unfold infB at h
  split
  · rfl
  · rename_i h2
    congr 1
    omega

theorem taken_lt {r : Nat} : takenM r < 9007199254740992 := by
  unfold takenM
  split <;> omega
theorem takenE_ge (r : Nat) : -1074 ≤ takenE r := by
  unfold takenE
  split <;> omega
theorem takenE_le {r : Nat} (h : r < infB) : takenE r ≤ 971 := by
  unfold infB at h
  unfold takenE
  split <;> omega
/-- the amount of a rung back -/
theorem taken_back (r : Nat) : (takenE r + 1074).toNat * 4503599627370496 + takenM r = r := by
  unfold takenE takenM
  split
  · omega
  · omega

/-- a number that the format has is its own nearest -/
theorem nearest_taken (s : Bool) {r : Nat} (h : r < infB) : D.nearest s (takenM r) (takenE r) = D.word s r := by
  by_cases h0 : takenM r = 0
  · have hr : r = 0 := by
      unfold takenM at h0
      split at h0
      · exact h0
      · omega
    subst hr
    unfold Format.nearest
    rw [if_pos h0]
  · rw [← rnd_nearest s (takenE r) h0 (Nat.lt_trans taken_lt (by decide))]
    unfold rnd
    congr 1
    have hbl : bitLen (takenM r) ≤ 53 := by
      rw [bitLen_pos h0]
      have : (takenM r).log2 < 53 := (Nat.log2_lt h0).2 taken_lt
      omega
    have hq : rndQ (takenM r) (takenE r) = takenE r := by
      unfold rndQ
      by_cases hs : r < 4503599627370496
      · have he : takenE r = -1074 := if_pos hs
        have h3 : takenM r = r := if_pos hs
        have h2 : bitLen (takenM r) ≤ 52 := by
          rw [bitLen_pos h0]
          have : (takenM r).log2 < 52 := (Nat.log2_lt h0).2 (by rw [h3]; exact hs)
          omega
        rw [he, if_pos (by omega)]
      · have h3 : takenM r = 4503599627370496 + r % 4503599627370496 := if_neg hs
        have h2 : bitLen (takenM r) = 53 := by
          have : 52 ≤ (takenM r).log2 := (Nat.le_log2 h0).2 (by rw [h3]; omega)
          rw [bitLen_pos h0] at hbl ⊢
          omega
        have := takenE_ge r
        rw [h2, if_neg (by omega)]
        omega
    unfold rndR
    have hle := takenE_le h
    rw [hq, if_neg (show ¬ 127 < takenE r - takenE r by omega), if_pos (show takenE r - takenE r ≤ 0 by omega), Int.sub_self, Int.toNat_zero, Nat.pow_zero, Nat.mul_one]
    simp only []
    rw [if_neg (show ¬ 971 < takenE r by omega), taken_back, if_neg (by omega)]

theorem log2_is {w k : Nat} (h1 : 2 ^ k ≤ w) (h2 : w < 2 ^ (k + 1)) : w.log2 = k := by
  have h0 : w ≠ 0 := by have := Nat.two_pow_pos k; omega
  have a := (Nat.le_log2 h0).2 h1
  have b := (Nat.log2_lt h0).2 h2
  omega

theorem nearest_drop (s : Bool) {w : Nat} {f last : Int} {drop q r : Nat} (hw : w ≠ 0) (hl : f + (w.log2 : Int) - 52 = last) (hge : -1074 ≤ last) (hd : last - f = (drop : Int)) (hdl : drop ≤ w.log2 + 2) (hq : w / 2 ^ drop = q) (hr : w % 2 ^ drop = r) (hne : 2 ^ drop ≠ 2 * r) :
    D.nearest s w f = D.word s (min ((last + 1074).toNat * 4503599627370496 + (q + if 2 ^ drop < 2 * r then 1 else 0)) infB) := by
  unfold Format.nearest
  have hlast : max (f + (w.log2 : Int) - (D.fractionBits : Int)) D.leastPlace = last := by
    rw [D_least, show (D.fractionBits : Int) = 52 from rfl, hl, Int.max_eq_left hge]
  rw [if_neg hw]
  simp only [hlast]
  simp only [D_least, D_bin, D_inf]
  rw [show (f - last).toNat = 0 by omega, Nat.shiftLeft_zero, show (last - f).toNat = drop by omega, cut_even, Nat.min_eq_left hdl, hq, hr, Int.sub_neg]
  congr 3
  congr 1
  by_cases h : 2 ^ drop < 2 * r
  · rw [if_pos h, if_pos (.inl h)]
  · rw [if_neg h, if_neg (by
      rintro (h2 | h2)
      · exact h h2
      · exact hne h2.1)]

/-- far less than half of the last bit: nothing -/
theorem far_plus (s : Bool) {x m n d : Nat} {e f : Int} (hx : x < infB) (hm : m = takenM x) (he : e = takenE x) (h52 : 4503599627370496 ≤ m) (hn : n < 9007199254740992) (hn0 : 0 < n) (hd : e - f = (d : Int)) (hd65 : 65 ≤ d) :
    D.nearest s (m * 2 ^ d + n) f = D.word s x := by
  have hm53 : m < 9007199254740992 := hm ▸ taken_lt
  have hback := taken_back x
  rw [← hm, ← he] at hback
  have hge := takenE_ge x
  rw [← he] at hge
  have hp : 36893488147419103232 ≤ 2 ^ d := by
    calc 36893488147419103232 = 2 ^ 65 := by decide
      _ ≤ 2 ^ d := Nat.pow_le_pow_right (by decide) hd65
  have e52 : 2 ^ (52 + d) = 4503599627370496 * 2 ^ d := by rw [Nat.pow_add]
  have e53 : 2 ^ (52 + d + 1) = 9007199254740992 * 2 ^ d := by rw [Nat.pow_succ, e52]; omega
  have hlog : (m * 2 ^ d + n).log2 = 52 + d := by
    refine log2_is ?_ ?_
    · rw [e52]
      have := Nat.mul_le_mul_right (2 ^ d) h52
      omega
    · rw [e53]
      have : (m + 1) * 2 ^ d ≤ 9007199254740992 * 2 ^ d := Nat.mul_le_mul_right _ (by omega)
      rw [Nat.add_mul] at this
      omega
  rw [nearest_drop s (w := m * 2 ^ d + n) (last := e) (drop := d) (q := m) (r := n) (by omega) (by rw [hlog]; omega) hge hd (by rw [hlog]; omega) (by
      rw [Nat.mul_comm, Nat.mul_add_div (by omega), Nat.div_eq_of_lt (by omega), Nat.add_zero]) (by
      rw [Nat.mul_comm, Nat.mul_add_mod, Nat.mod_eq_of_lt (by omega)]) (by omega)]
  rw [if_neg (by omega), Nat.add_zero, hback, Nat.min_eq_left (by omega)]

theorem far_minus (s : Bool) {x m n d : Nat} {e f : Int} (hx : x < infB) (hm : m = takenM x) (he : e = takenE x) (h52 : 4503599627370496 ≤ m) (hn : n < 9007199254740992) (hn0 : 0 < n) (hd : e - f = (d : Int)) (hd65 : 65 ≤ d) (hf : -1074 ≤ f) :
    D.nearest s (m * 2 ^ d - n) f = D.word s x := by
  have hm53 : m < 9007199254740992 := hm ▸ taken_lt
  have hback := taken_back x
  rw [← hm, ← he] at hback
  have hge := takenE_ge x
  rw [← he] at hge
  have hp : 36893488147419103232 ≤ 2 ^ d := by
    calc 36893488147419103232 = 2 ^ 65 := by decide
      _ ≤ 2 ^ d := Nat.pow_le_pow_right (by decide) hd65
  have hp1 : 2 ^ d = 2 * 2 ^ (d - 1) := pow_split (by omega)
  have e52 : 2 ^ (52 + d) = 4503599627370496 * 2 ^ d := by rw [Nat.pow_add]
  have e53 : 2 ^ (52 + d + 1) = 9007199254740992 * 2 ^ d := by rw [Nat.pow_succ, e52]; omega
  have hU := Nat.mul_le_mul_right (2 ^ d) h52
  have hU2 := Nat.mul_le_mul_right (2 ^ d) (Nat.le_of_lt hm53)
  by_cases hm2 : m = 4503599627370496
  · subst hm2
    have e51 : 2 ^ (51 + d) = 2251799813685248 * 2 ^ d := by rw [Nat.pow_add]
    have hlog : (4503599627370496 * 2 ^ d - n).log2 = 51 + d := by
      refine log2_is ?_ ?_
      · rw [e51]
        omega
      · rw [show 51 + d + 1 = 52 + d by omega, e52]
        omega
    have hW : 4503599627370496 * 2 ^ d - n = 2 ^ (d - 1) * 9007199254740991 + (2 ^ (d - 1) - n) := by omega
    rw [nearest_drop s (w := 4503599627370496 * 2 ^ d - n) (last := e - 1) (drop := d - 1) (q := 9007199254740991) (r := 2 ^ (d - 1) - n) (by omega) (by rw [hlog]; omega) (by omega) (by omega) (by rw [hlog]; omega) (by
        rw [hW, Nat.mul_add_div (by omega), Nat.div_eq_of_lt (by omega)]) (by
        rw [hW, Nat.mul_add_mod, Nat.mod_eq_of_lt (by omega)]) (by omega)]
    rw [if_pos (by omega)]
    have : (e - 1 + 1074).toNat * 4503599627370496 + (9007199254740991 + 1) = x := by
      have h2 : (e + 1074).toNat = (e - 1 + 1074).toNat + 1 := by omega
      have h3 : 1 * 4503599627370496 + 4503599627370496 = 9007199254740991 + 1 := rfl
      rw [h2, Nat.add_mul, Nat.add_assoc, h3] at hback
      exact hback
    rw [this, Nat.min_eq_left (by omega)]
  · have hm3 : (4503599627370496 + 1) * 2 ^ d ≤ m * 2 ^ d := Nat.mul_le_mul_right _ (by omega)
    rw [Nat.add_mul] at hm3
    have hlog : (m * 2 ^ d - n).log2 = 52 + d := by
      refine log2_is ?_ ?_
      · rw [e52]
        omega
      · rw [e53]
        omega
    have hW : m * 2 ^ d - n = 2 ^ d * (m - 1) + (2 ^ d - n) := by
      obtain ⟨k, rfl⟩ : ∃ k, m = k + 1 := ⟨m - 1, by omega⟩
      rw [Nat.add_mul, Nat.add_sub_cancel, Nat.mul_comm k, Nat.one_mul]
      omega
    rw [nearest_drop s (w := m * 2 ^ d - n) (last := e) (drop := d) (q := m - 1) (r := 2 ^ d - n) (by omega) (by rw [hlog]; omega) hge hd (by rw [hlog]; omega) (by
        rw [hW, Nat.mul_add_div (by omega), Nat.div_eq_of_lt (by omega), Nat.add_zero]) (by
        rw [hW, Nat.mul_add_mod, Nat.mod_eq_of_lt (by omega)]) (by omega)]
    rw [if_pos (by omega), show m - 1 + 1 = m by omega, hback, Nat.min_eq_left (by omega)]

theorem takenE_mono {x y : Nat} (h : y ≤ x) : takenE y ≤ takenE x := by
  unfold takenE
  split <;> split <;> omega

/-- amounts: the greater rung is the greater amount, at the lesser one's place -/
theorem taken_mono {x y d : Nat} (h : y < x) (hd : takenE x - takenE y = (d : Int)) : takenM y < takenM x * 2 ^ d := by
  by_cases hd0 : d = 0
  · subst hd0
    have b1 := taken_back x
    have b2 := taken_back y
    have he : takenE x = takenE y := by omega
    rw [he] at b1
    rw [Nat.pow_zero, Nat.mul_one]
    omega
  · have hx : ¬ x < 4503599627370496 := by
      intro hx
      have e1 : takenE x = -1074 := if_pos hx
      have := takenE_ge y
      omega
    have hm : takenM x = 4503599627370496 + x % 4503599627370496 := if_neg hx
    have hy : takenM y < 9007199254740992 := taken_lt
    have hp : 2 ≤ 2 ^ d := by
      calc 2 = 2 ^ 1 := rfl
        _ ≤ 2 ^ d := Nat.pow_le_pow_right (by decide) (by omega)
    have : 4503599627370496 * 2 ≤ takenM x * 2 ^ d := Nat.mul_le_mul (by omega) hp
    omega

theorem takenM_pos {x : Nat} (h : x ≠ 0) : 0 < takenM x := by
  unfold takenM
  split <;> omega

theorem sum_bound {x y d : Nat} (hd : d ≤ 64) : takenM x * 2 ^ d + takenM y < 2 ^ 127 := by
  have h1 : takenM x < 9007199254740992 := taken_lt
  have h2 : takenM y < 9007199254740992 := taken_lt
  have h3 : 2 ^ d ≤ 2 ^ 64 := Nat.pow_le_pow_right (by decide) hd
  have h4 : takenM x * 2 ^ d ≤ 9007199254740992 * 2 ^ 64 := Nat.mul_le_mul (by omega) h3
  have h5 : 9007199254740992 * 2 ^ 64 + 9007199254740992 < 2 ^ 127 := by decide
  omega

theorem signed_zero (s : Bool) (m : Nat) : signed s m 0 = if s then -(m : Int) else m := by
  unfold signed
  rw [Nat.shiftLeft_zero]
theorem signed_up (s : Bool) (m d : Nat) : signed s m d = if s then -((m * 2 ^ d : Nat) : Int) else ((m * 2 ^ d : Nat) : Int) := by
  unfold signed
  rw [Nat.shiftLeft_eq]

/-- the document's sum of two amounts above 0, the first of which is not the lesser one -/
def sum2 (s t : Bool) (x y : Nat) : Nat :=
  if 64 < takenE x - takenE y then D.word s x
  else if s = t then rnd s (takenM x * 2 ^ (takenE x - takenE y).toNat + takenM y) (takenE y) false
  else if x = y then 0
  else rnd s (takenM x * 2 ^ (takenE x - takenE y).toNat - takenM y) (takenE y) false

theorem write_total (T f : Int) (s t : Bool) : D.write (.number (if T = 0 then s && t else decide (T < 0)) T.natAbs f) = if T = 0 then D.word (s && t) 0 else D.nearest (decide (T < 0)) T.natAbs f := by
  by_cases h : T = 0
  · subst h
    simp only [if_true, Int.natAbs_zero]
    show D.nearest _ 0 _ = _
    unfold Format.nearest
    rw [if_pos rfl]
  · rw [if_neg h, if_neg h]
    rfl

theorem add_sum2 (s t : Bool) {x y : Nat} (hx : x < infB) (hy : y < infB) (hy0 : y ≠ 0) (hxy : y ≤ x) : fadd (D.word s x) (D.word t y) = sum2 s t x y := by
  have hx0 : x ≠ 0 := by omega
  have hmono := takenE_mono hxy
  obtain ⟨d, hd⟩ : ∃ d : Nat, takenE x - takenE y = (d : Int) := ⟨(takenE x - takenE y).toNat, by omega⟩
  have hmin : min (takenE x) (takenE y) = takenE y := Int.min_eq_right hmono
  have hmx := takenM_pos hx0
  have hmy := takenM_pos hy0
  have hpd := Nat.two_pow_pos d
  have hU : 0 < takenM x * 2 ^ d := Nat.mul_pos hmx hpd
  unfold fadd Format.add
  rw [read_num s hx, read_num t hy]
  simp only [Datum.sum, hmin, Int.sub_self, Option.map_some, Option.getD_some]
  rw [hd]
  simp only [Int.toNat_natCast, Int.toNat_zero]
  refine (write_total (signed s (takenM x) d + signed t (takenM y) 0) (takenE y) s t).trans ?_
  generalize hT : signed s (takenM x) d + signed t (takenM y) 0 = T
  rw [signed_zero, signed_up] at hT
  unfold sum2
  rw [hd]
  simp only [Int.toNat_natCast]
  have hfar : 64 < (d : Int) → 4503599627370496 ≤ takenM x := by
    intro h
    have hx2 : ¬ x < 4503599627370496 := by
      intro hx2
      have e1 : takenE x = -1074 := if_pos hx2
      have := takenE_ge y
      omega
    have hm : takenM x = 4503599627370496 + x % 4503599627370496 := if_neg hx2
    omega
  by_cases hst : s = t
  · subst hst
    have h1 : T ≠ 0 ∧ T.natAbs = takenM x * 2 ^ d + takenM y ∧ decide (T < 0) = s := by
      cases s
      · simp only [Bool.false_eq_true, if_false] at hT
        exact ⟨by omega, by omega, decide_eq_false (by omega)⟩
      · simp only [if_true] at hT
        exact ⟨by omega, by omega, decide_eq_true (by omega)⟩
    rw [if_neg h1.1, h1.2.1, h1.2.2, if_pos rfl]
    by_cases hf : 64 < (d : Int)
    · rw [if_pos hf]
      exact far_plus s hx rfl rfl (hfar hf) taken_lt hmy hd (by omega)
    · rw [if_neg hf]
      exact (rnd_nearest s _ (by omega) (sum_bound (by omega))).symm
  · rw [if_neg hst]
    by_cases hxy2 : x = y
    · subst hxy2
      have hd0 : d = 0 := by omega
      subst hd0
      rw [Nat.pow_zero, Nat.mul_one] at hT
      have h0 : T = 0 := by
        cases s
        · cases t
          · exact absurd rfl hst
          · simp only [Bool.false_eq_true, if_false, if_true] at hT
            omega
        · cases t
          · simp only [Bool.false_eq_true, if_false, if_true] at hT
            omega
          · exact absurd rfl hst
      rw [if_pos h0, if_neg (show ¬ (64 < ((0 : Nat) : Int)) by omega), if_pos rfl]
      cases s <;> cases t <;> simp at hst ⊢ <;> rfl
    · have hgt := taken_mono (by omega : y < x) hd
      rw [if_neg hxy2]
      have h1 : T ≠ 0 ∧ T.natAbs = takenM x * 2 ^ d - takenM y ∧ decide (T < 0) = s := by
        cases s
        · cases t
          · exact absurd rfl hst
          · simp only [Bool.false_eq_true, if_false, if_true] at hT
            exact ⟨by omega, by omega, decide_eq_false (by omega)⟩
        · cases t
          · simp only [Bool.false_eq_true, if_false, if_true] at hT
            exact ⟨by omega, by omega, decide_eq_true (by omega)⟩
          · exact absurd rfl hst
      rw [if_neg h1.1, h1.2.1, h1.2.2]
      by_cases hf : 64 < (d : Int)
      · rw [if_pos hf]
        exact far_minus s hx rfl rfl (hfar hf) taken_lt hmy hd (by omega) (takenE_ge y)
      · rw [if_neg hf]
        have hb := sum_bound (x := x) (y := y) (d := d) (by omega)
        exact (rnd_nearest s _ (by omega) (by omega)).symm

theorem log2_scale {m : Nat} (d : Nat) (hm : 0 < m) : (m * 2 ^ d).log2 = m.log2 + d := by
  refine log2_is ?_ ?_
  · rw [Nat.pow_add]
    exact Nat.mul_le_mul_right _ (log_le m (by omega))
  · rw [show m.log2 + d + 1 = (m.log2 + 1) + d by omega, Nat.pow_add]
    exact Nat.mul_lt_mul_of_pos_right Nat.lt_log2_self (Nat.two_pow_pos d)

theorem cut_scale (s : Bool) {m : Nat} (d k : Nat) (hm : 0 < m) : Toward.even.cut s (m * 2 ^ d) (k + d) = Toward.even.cut s m k := by
  rw [cut_even, cut_even, log2_scale d hm, show min (k + d) (m.log2 + d + 2) = min k (m.log2 + 2) + d by omega]
  generalize min k (m.log2 + 2) = g
  have hp := Nat.two_pow_pos d
  have e1 : m * 2 ^ d / 2 ^ (g + d) = m / 2 ^ g := by rw [Nat.pow_add, Nat.mul_div_mul_right _ _ hp]
  have e2 : m * 2 ^ d % 2 ^ (g + d) = m % 2 ^ g * 2 ^ d := by rw [Nat.pow_add, Nat.mul_mod_mul_right]
  rw [e1, e2, Nat.pow_add]
  congr 1
  have h1 : (2 ^ g * 2 ^ d < 2 * (m % 2 ^ g * 2 ^ d)) ↔ (2 ^ g < 2 * (m % 2 ^ g)) := by
    rw [← Nat.mul_assoc]
    exact Nat.mul_lt_mul_right hp
  have h2 : (2 ^ g * 2 ^ d = 2 * (m % 2 ^ g * 2 ^ d)) ↔ (2 ^ g = 2 * (m % 2 ^ g)) := by
    rw [← Nat.mul_assoc]
    exact Nat.mul_left_inj (by omega)
  simp only [h1, h2]

/-- a number may be written at a lesser place -/
theorem nearest_scale (s : Bool) {m d : Nat} {e f : Int} (hm : 0 < m) (hd : e - f = (d : Int)) : D.nearest s (m * 2 ^ d) f = D.nearest s m e := by
  have hp := Nat.two_pow_pos d
  have hmd : m * 2 ^ d ≠ 0 := by have := Nat.mul_pos hm hp; omega
  unfold Format.nearest
  rw [if_neg hmd, if_neg (by omega), log2_scale d hm]
  have hl : f + ((m.log2 + d : Nat) : Int) - (D.fractionBits : Int) = e + (m.log2 : Int) - (D.fractionBits : Int) := by omega
  simp only [hl]
  generalize max (e + (m.log2 : Int) - (D.fractionBits : Int)) D.leastPlace = last
  have key : Toward.even.cut s ((m * 2 ^ d) <<< (f - last).toNat) (last - f).toNat = Toward.even.cut s (m <<< (e - last).toNat) (last - e).toNat := by
    by_cases h1 : last ≤ f
    · rw [show (last - f).toNat = 0 by omega, show (last - e).toNat = 0 by omega, cut_zero, cut_zero, Nat.shiftLeft_eq, Nat.shiftLeft_eq, Nat.mul_assoc, ← Nat.pow_add]
      congr 2
      omega
    · by_cases h2 : last ≤ e
      · rw [show (f - last).toNat = 0 by omega, Nat.shiftLeft_zero, show (last - e).toNat = 0 by omega, cut_zero, Nat.shiftLeft_eq]
        have hk : d = (e - last).toNat + (last - f).toNat := by omega
        have h3 : m * 2 ^ d = m * 2 ^ (e - last).toNat * 2 ^ (last - f).toNat := by
          conv => lhs; rw [hk]
          rw [Nat.pow_add, Nat.mul_assoc]
        have h4 := cut_scale s (last - f).toNat 0 (Nat.mul_pos hm (Nat.two_pow_pos (e - last).toNat))
        rw [Nat.zero_add, cut_zero] at h4
        rw [h3]
        exact h4
      · rw [show (f - last).toNat = 0 by omega, show (e - last).toNat = 0 by omega, Nat.shiftLeft_zero, Nat.shiftLeft_zero, show (last - f).toNat = (last - e).toNat + d by omega]
        exact cut_scale s d _ hm
  rw [key]

/-- the document's sum -/
def rAdd (a b : Nat) : Nat :=
  if infB < a % signB ∨ infB < b % signB ∨ (a % signB = infB ∧ b % signB = infB ∧ a ≠ b) then nanB
  else if a % signB = infB then a
  else if b % signB = infB then b
  else if a % signB = 0 ∧ b % signB = 0 then (if signB ≤ a ∧ signB ≤ b then signB else 0)
  else if a % signB = 0 then b
  else if b % signB = 0 then a
  else if a % signB < b % signB then sum2 (decide (signB ≤ b)) (decide (signB ≤ a)) (b % signB) (a % signB)
  else sum2 (decide (signB ≤ a)) (decide (signB ≤ b)) (a % signB) (b % signB)

theorem read_inf (s : Bool) : D.read (D.word s infB) = .infinity s := by
  rw [read_word s infB (by decide)]
  rw [if_neg (by decide), if_neg (by decide), if_pos (by decide)]
theorem read_zero (s : Bool) : D.read (D.word s 0) = .number s 0 (-1074) := by
  rw [read_word s 0 (by decide), if_pos (by decide)]

theorem sum_zero_l (s t : Bool) {y : Nat} (hy : y < infB) (hy0 : y ≠ 0) : fadd (D.word s 0) (D.word t y) = D.word t y := by
  unfold fadd Format.add
  rw [read_zero, read_num t hy]
  have hmin : min (-1074) (takenE y) = -1074 := Int.min_eq_left (takenE_ge y)
  obtain ⟨d, hd⟩ : ∃ d : Nat, takenE y - -1074 = (d : Int) := ⟨(takenE y - -1074).toNat, by have := takenE_ge y; omega⟩
  simp only [Datum.sum, hmin, Option.map_some, Option.getD_some, Int.sub_self, hd]
  simp only [Int.toNat_natCast, Int.toNat_zero]
  refine (write_total (signed s 0 0 + signed t (takenM y) d) (-1074) s t).trans ?_
  generalize hT : signed s 0 0 + signed t (takenM y) d = T
  rw [signed_zero, signed_up] at hT
  have hm := takenM_pos hy0
  have hU : 0 < takenM y * 2 ^ d := Nat.mul_pos hm (Nat.two_pow_pos d)
  have h1 : T ≠ 0 ∧ T.natAbs = takenM y * 2 ^ d ∧ decide (T < 0) = t := by
    cases t
    · cases s
      · simp only [Bool.false_eq_true, if_false] at hT
        exact ⟨by omega, by omega, decide_eq_false (by omega)⟩
      · simp only [Bool.false_eq_true, if_false, if_true] at hT
        exact ⟨by omega, by omega, decide_eq_false (by omega)⟩
    · cases s
      · simp only [Bool.false_eq_true, if_false, if_true] at hT
        exact ⟨by omega, by omega, decide_eq_true (by omega)⟩
      · simp only [if_true] at hT
        exact ⟨by omega, by omega, decide_eq_true (by omega)⟩
  rw [if_neg h1.1, h1.2.1, h1.2.2, nearest_scale t hm hd, nearest_taken t hy]

theorem sum_zeros (s t : Bool) : fadd (D.word s 0) (D.word t 0) = D.word (s && t) 0 := by
  unfold fadd Format.add
  rw [read_zero, read_zero]
  cases s <;> cases t <;> rfl

theorem sum2_same (s : Bool) (x : Nat) (t : Bool) (y : Nat) (h : x = y) : sum2 s t x y = sum2 t s y x := by
  subst h
  unfold sum2
  by_cases hst : s = t
  · subst hst
    rfl
  · rw [if_neg (show ¬ (64 < takenE x - takenE x) by omega), if_neg hst, if_pos rfl, if_neg (show ¬ (64 < takenE x - takenE x) by omega), if_neg (fun e => hst e.symm), if_pos rfl]

/-- the document's sum is the sum -/
theorem fadd_eq {a b : Nat} (ha : a < 2 * signB) (hb : b < 2 * signB) : fadd a b = rAdd a b := by
  unfold rAdd
  by_cases hn : infB < a % signB ∨ infB < b % signB
  · rw [if_pos (by
      rcases hn with h | h
      · exact .inl h
      · exact .inr (.inl h))]
    unfold fadd Format.add
    rcases hn with h | h
    · obtain ⟨s, f, hr⟩ := read_isN ha (decide_eq_true h)
      rw [hr, sum_nan_l]
      rfl
    · obtain ⟨s, f, hr⟩ := read_isN hb (decide_eq_true h)
      rw [hr, sum_nan_r]
      rfl
  obtain ⟨wa, la⟩ := word_of ha
  obtain ⟨wb, lb⟩ := word_of hb
  obtain ⟨s, hs⟩ : ∃ s, s = decide (signB ≤ a) := ⟨_, rfl⟩
  obtain ⟨t, ht⟩ : ∃ t, t = decide (signB ≤ b) := ⟨_, rfl⟩
  obtain ⟨x, hx⟩ : ∃ x, x = a % signB := ⟨_, rfl⟩
  obtain ⟨y, hy⟩ : ∃ y, y = b % signB := ⟨_, rfl⟩
  rw [← hs, ← hx] at wa
  rw [← ht, ← hy] at wb
  rw [← hx] at la
  rw [← hy] at lb
  rw [← hx, ← hy] at hn
  rw [← hx, ← hy, ← hs, ← ht]
  by_cases hxi : x = infB
  · by_cases hyi : y = infB
    · by_cases hab : a = b
      · rw [if_neg (by omega), if_pos hxi]
        have hst : s = t := by rw [hs, ht, hab]
        rw [wa, wb, hxi, hyi, hst]
        unfold fadd Format.add
        rw [read_inf]
        simp only [Datum.sum, if_true]
        rfl
      · rw [if_pos (.inr (.inr ⟨hxi, hyi, hab⟩))]
        have hst : s ≠ t := by
          intro h
          exact hab (by rw [wa, wb, hxi, hyi, h])
        rw [wa, wb, hxi, hyi]
        unfold fadd Format.add
        rw [read_inf, read_inf]
        simp only [Datum.sum, if_neg hst]
        rfl
    · rw [if_neg (by omega), if_pos hxi]
      rw [wa, wb, hxi]
      unfold fadd Format.add
      rw [read_inf, read_num t (by omega)]
      rfl
  · by_cases hyi : y = infB
    · rw [if_neg (by omega), if_neg hxi, if_pos hyi]
      rw [wa, wb, hyi]
      unfold fadd Format.add
      rw [read_inf, read_num s (by omega)]
      rfl
    · rw [if_neg (by omega), if_neg hxi, if_neg hyi]
      by_cases hx0 : x = 0
      · by_cases hy0 : y = 0
        · rw [if_pos ⟨hx0, hy0⟩]
          have h1 : (signB ≤ a ∧ signB ≤ b) ↔ ((s && t) = true) := by
            rw [hs, ht]
            simp
          have h2 : fadd a b = D.word (s && t) 0 := by rw [wa, wb, hx0, hy0, sum_zeros]
          rw [h2]
          by_cases h3 : (s && t) = true
          · rw [if_pos (h1.2 h3), h3]
            decide
          · rw [if_neg (fun h => h3 (h1.1 h))]
            rw [Bool.not_eq_true] at h3
            rw [h3]
            rfl
        · rw [if_neg (by omega), if_pos hx0]
          rw [wa, wb, hx0, sum_zero_l s t (by omega) hy0]
      · by_cases hy0 : y = 0
        · rw [if_neg (by omega), if_neg hx0, if_pos hy0]
          rw [fadd_comm, wa, wb, hy0, sum_zero_l t s (by omega) hx0]
        · rw [if_neg (by omega), if_neg hx0, if_neg hy0]
          by_cases hlt : x < y
          · rw [if_pos hlt]
            rw [fadd_comm, wa, wb, add_sum2 t s (by omega) (by omega) hx0 (by omega)]
          · rw [if_neg hlt]
            rw [wa, wb, add_sum2 s t (by omega) (by omega) hy0 (by omega)]

/-! ### The difference, the product -/
theorem fsub_eq {a b : Nat} (hb : b < 2 * signB) : fsub a b = fadd a (fneg b) := by
  unfold fsub fadd Format.sub Format.add
  rcases read_neg hb with ⟨s, f, s', f', h1, h2⟩ | h
  · rw [h1, h2, sum_nan_r]
    rw [show (Datum.nan s f).opposite = Datum.nan (!s) f from rfl, sum_nan_r]
  · rw [h]

/-- the document's product -/
def rMul (a b : Nat) : Nat :=
  if infB < a % signB ∨ infB < b % signB ∨ (a % signB = infB ∧ b % signB = 0) ∨ (a % signB = 0 ∧ b % signB = infB) then nanB
  else if a % signB = infB ∨ b % signB = infB then D.word (decide (signB ≤ a) ^^ decide (signB ≤ b)) infB
  else if a % signB = 0 ∨ b % signB = 0 then D.word (decide (signB ≤ a) ^^ decide (signB ≤ b)) 0
  else rnd (decide (signB ≤ a) ^^ decide (signB ≤ b)) (takenM (a % signB) * takenM (b % signB)) (takenE (a % signB) + takenE (b % signB)) false

theorem takenM_zero (x : Nat) : takenM x = 0 ↔ x = 0 := by
  constructor
  · intro h
    by_cases hx : x = 0
    · exact hx
    · have := takenM_pos hx
      omega
  · rintro rfl
    rfl

theorem nearest_none (s : Bool) (e : Int) : D.nearest s 0 e = D.word s 0 := by
  unfold Format.nearest
  rw [if_pos rfl]

theorem fmul_eq {a b : Nat} (ha : a < 2 * signB) (hb : b < 2 * signB) : fmul a b = rMul a b := by
  unfold rMul
  by_cases hn : infB < a % signB ∨ infB < b % signB
  · rw [if_pos (by
      rcases hn with h | h
      · exact .inl h
      · exact .inr (.inl h))]
    unfold fmul Format.mul
    rcases hn with h | h
    · obtain ⟨s, f, hr⟩ := read_isN ha (decide_eq_true h)
      rw [hr, product_nan_l]
      rfl
    · obtain ⟨s, f, hr⟩ := read_isN hb (decide_eq_true h)
      rw [hr, product_nan_r]
      rfl
  obtain ⟨wa, la⟩ := word_of ha
  obtain ⟨wb, lb⟩ := word_of hb
  obtain ⟨s, hs⟩ : ∃ s, s = decide (signB ≤ a) := ⟨_, rfl⟩
  obtain ⟨t, ht⟩ : ∃ t, t = decide (signB ≤ b) := ⟨_, rfl⟩
  obtain ⟨x, hx⟩ : ∃ x, x = a % signB := ⟨_, rfl⟩
  obtain ⟨y, hy⟩ : ∃ y, y = b % signB := ⟨_, rfl⟩
  rw [← hs, ← hx] at wa
  rw [← ht, ← hy] at wb
  rw [← hx] at la
  rw [← hy] at lb
  rw [← hx, ← hy] at hn
  rw [← hx, ← hy, ← hs, ← ht]
  rw [show fmul a b = fmul (D.word s x) (D.word t y) by rw [← wa, ← wb]]
  unfold fmul Format.mul
  by_cases hxi : x = infB
  · by_cases hyi : y = infB
    · have hy0 : y ≠ 0 := by rw [hyi]; decide
      have hx0 : x ≠ 0 := by rw [hxi]; decide
      rw [if_neg (by omega), if_pos (.inl hxi), hxi, hyi, read_inf, read_inf]
      rfl
    · rw [hxi, read_inf, read_num t (by omega)]
      by_cases hy0 : y = 0
      · rw [if_pos (.inr (.inr (.inl ⟨rfl, hy0⟩)))]
        simp only [Datum.product, if_pos ((takenM_zero y).2 hy0)]
        rfl
      · rw [if_neg (by
          have : infB ≠ 0 := by decide
          omega), if_pos (.inl rfl)]
        simp only [Datum.product, if_neg (fun h => hy0 ((takenM_zero y).1 h))]
        rfl
  · by_cases hyi : y = infB
    · rw [hyi, read_inf, read_num s (by omega)]
      by_cases hx0 : x = 0
      · rw [if_pos (.inr (.inr (.inr ⟨hx0, rfl⟩)))]
        simp only [Datum.product, if_pos ((takenM_zero x).2 hx0)]
        rfl
      · rw [if_neg (by
          have : infB ≠ 0 := by decide
          omega), if_pos (.inr rfl)]
        simp only [Datum.product, if_neg (fun h => hx0 ((takenM_zero x).1 h))]
        rw [Bool.xor_comm s t]
        rfl
    · rw [if_neg (by omega), if_neg (by omega), read_num s (by omega), read_num t (by omega)]
      simp only [Datum.product, Option.map_some, Option.getD_some]
      show D.nearest _ _ _ = _
      by_cases h0 : x = 0 ∨ y = 0
      · rw [if_pos h0]
        have : takenM x * takenM y = 0 := by
          rcases h0 with h | h
          · rw [(takenM_zero x).2 h, Nat.zero_mul]
          · rw [(takenM_zero y).2 h, Nat.mul_zero]
        rw [this, nearest_none]
      · rw [if_neg h0]
        have h1 : 0 < takenM x * takenM y := Nat.mul_pos (takenM_pos (by omega)) (takenM_pos (by omega))
        have h2 : takenM x * takenM y < 2 ^ 127 := by
          have a1 : takenM x < 9007199254740992 := taken_lt
          have a2 : takenM y < 9007199254740992 := taken_lt
          have a3 : takenM x * takenM y ≤ 9007199254740992 * 9007199254740992 := Nat.mul_le_mul (by omega) (by omega)
          have a4 : 9007199254740992 * 9007199254740992 < 2 ^ 127 := by decide
          omega
        exact (rnd_nearest _ _ (by omega) h2).symm
end Go.Proofs.YtjloiclbknfomaaDoor
