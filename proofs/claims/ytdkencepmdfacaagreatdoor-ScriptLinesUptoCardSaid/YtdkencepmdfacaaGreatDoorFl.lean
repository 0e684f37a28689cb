/- Floats, plain: no program in sight: what the operations of IEEE 754 keep. Floats, plain: how the document rounds is how IEEE 754 rounds. Floats, plain: the quotient. Floats, plain: floors, whole numbers, how two stand. Floats, plain: Less, Equal, Order, Min, Max. Floats, plain: rounding keeps the order. Floats, plain: a sum is its exact value, rounded. Floats, plain: near numbers' differences are exact (Sterbenz). Floats, plain: sums keep the order. Floats, plain: classes, the lesser and the greater. Floats, plain: exact values: floors, whole numbers, sums and products of whole ones. Floats, plain: Int, and the laws NumFloors and NumCounts. Floats, plain: powers of 2 are exact (NumScales). Floats, plain: sums and products keep the order (NumRises). Floats, plain: what a sum leaves out is at most half of its last bit (NumNearest). Floats: what the machine's operations give, the one NaN being told by 'fcan'. Floats, plain: bounds of words, and the answers of package num's functions. Floats, plain: what Int tells, by the odd part of the amount (NumWhole). Floats, plain: amounts with their leading bit in place; what Frexp and Ldexp tell; the text of a number. -/
import Derived.Laws.FloatArith
import Derived.Laws.Externs
import Derived.Laws.NewFold
import Derived.WalkLawsBesides
import Derived.Lib.ItoaNum
import Derived.Lib.TrailingZeros
set_option maxRecDepth 100000
namespace Go.Proofs.YtdkencepmdfacaaGreatDoor
open Ieee

/-- the format of float64 -/
abbrev D : Format := double
def nanB : Nat := 9221120237041090561
def signB : Nat := 9223372036854775808
def infB : Nat := 9218868437227405312

theorem D_sw : D.signWeight = 9223372036854775808 := by decide
theorem D_bin : D.binade = 4503599627370496 := by decide
theorem D_inf : D.infRung = 9218868437227405312 := by decide
theorem D_least : D.leastPlace = -1074 := by decide

/-- a word with the other sign -/
def flipW (a : Nat) : Nat := if a < signB then a + signB else a - signB

theorem word_flip (s : Bool) (r : Nat) (h : r < signB) : D.word (!s) r = flipW (D.word s r) := by
  unfold Format.word flipW
  rw [D_sw]
  unfold signB at *
  cases s
  · simp only [Bool.not_false, if_true, Bool.false_eq_true, if_false]
    rw [if_pos h]
    omega
  · simp only [Bool.not_true, if_true, Bool.false_eq_true, if_false]
    rw [if_neg (by omega)]
    omega

theorem nearest_rung (_ : Bool) (m : Nat) (e : Int) : ∃ r, r ≤ infB ∧ ∀ s', D.nearest s' m e = D.word s' r := by
  unfold Format.nearest
  by_cases hm : m = 0
  · exact ⟨0, by decide, fun s' => by rw [if_pos hm]⟩
  · refine ⟨min (((max (e + m.log2 - D.fractionBits) D.leastPlace) - D.leastPlace).toNat * D.binade + Toward.even.cut false (m <<< (e - max (e + m.log2 - D.fractionBits) D.leastPlace).toNat) (max (e + m.log2 - D.fractionBits) D.leastPlace - e).toNat) D.infRung, ?_, fun s' => by rw [if_neg hm]; rfl⟩
    rw [← show D.infRung = infB from D_inf]
    exact Nat.min_le_right _ _

/-- what a word stands for, by its sign and its rung -/
theorem read_word (s : Bool) (r : Nat) (hr : r < signB) : D.read (D.word s r) =
    if r < 4503599627370496 then .number s r (-1074)
    else if r < 9218868437227405312 then .number s (4503599627370496 + r % 4503599627370496) (-1074 + ((r / 4503599627370496 - 1 : Nat) : Int))
    else if r = 9218868437227405312 then .infinity s
    else .nan s (r - 9218868437227405312) := by
  have h1 : (D.word s r) % 9223372036854775808 = r := by
    unfold Format.word
    rw [D_sw]
    unfold signB at hr
    cases s <;> simp <;> omega
  have h2 : ((D.word s r) / 9223372036854775808 % 2 == 1) = s := by
    unfold Format.word
    rw [D_sw]
    unfold signB at hr
    cases s
    · simp
      omega
    · simp
      omega
  unfold Format.read
  simp only [D_sw, D_bin, D_inf, D_least, h1, h2]

theorem word_of {a : Nat} (h : a < 2 * signB) : a = D.word (decide (signB ≤ a)) (a % signB) ∧ a % signB < signB := by
  unfold Format.word
  rw [D_sw]
  unfold signB at *
  refine ⟨?_, Nat.mod_lt _ (by decide)⟩
  by_cases h2 : 9223372036854775808 ≤ a
  · simp [h2]
    omega
  · simp [h2]
    omega

/-! ### The operations of package num, plain -/
def isN (a : Nat) : Bool := decide (infB < a % signB)
def fcan (a : Nat) : Nat := if isN a then nanB else a
def fneg (a : Nat) : Nat := if isN a then nanB else flipW a
def fmul (a b : Nat) : Nat := (D.mul a b).getD nanB

theorem nanB_lt : nanB < 2 * signB := by decide
theorem word_mod (s : Bool) {r : Nat} (h : r < signB) : (D.word s r) % signB = r := by
  unfold Format.word
  rw [D_sw]
  unfold signB at *
  cases s
  · simp
    omega
  · simp
    omega
theorem word_lt2 (s : Bool) {r : Nat} (h : r < signB) : D.word s r < 2 * signB := by
  unfold Format.word
  rw [D_sw]
  unfold signB at *
  cases s
  · simp
    omega
  · simp
    omega

/-- what a word stands for is no NaN just if its rung is not above infinity's -/
theorem read_nan {a : Nat} (h : a < 2 * signB) : (D.read a).isNaN = isN a := by
  obtain ⟨h1, h2⟩ := word_of h
  rw [h1, read_word _ _ h2]
  unfold isN
  rw [word_mod _ h2]
  unfold infB
  split
  · simp [Datum.isNaN]
    omega
  split
  · simp [Datum.isNaN]
    omega
  split
  · rename_i e
    rw [e]
    simp [Datum.isNaN]
  · simp [Datum.isNaN]
    omega

/-- a datum that an operation answers: no NaN -/
theorem write_ok {d : Datum} (h : d.isNaN = false) : isN (D.write d) = false ∧ D.write d < 2 * signB := by
  cases d with
  | number s m e =>
    obtain ⟨r, hr, hw⟩ := nearest_rung s m e
    have hr2 : r < signB := Nat.lt_of_le_of_lt hr (by decide)
    show isN (D.nearest s m e) = false ∧ D.nearest s m e < 2 * signB
    rw [hw]
    refine ⟨?_, word_lt2 s hr2⟩
    unfold isN
    rw [word_mod s hr2]
    exact decide_eq_false (by omega)
  | infinity s =>
    show isN (D.word s D.infRung) = false ∧ D.word s D.infRung < 2 * signB
    rw [D_inf]
    have hr2 : 9218868437227405312 < signB := by decide
    refine ⟨?_, word_lt2 s hr2⟩
    unfold isN
    rw [word_mod s hr2]
    exact decide_eq_false (by unfold infB; omega)
  | nan s t => simp [Datum.isNaN] at h

theorem product_ok {x y d : Datum} (h : x.product y = some d) : d.isNaN = false := by
  cases x <;> cases y <;> simp only [Datum.product] at h
  all_goals first
    | (injection h with h; subst h; rfl)
    | (split at h <;> first | (injection h with h; subst h; rfl) | cases h)
    | cases h

/-- a word that is a NaN stands for one -/
theorem read_isN {a : Nat} (h : a < 2 * signB) (hn : isN a = true) : ∃ s f, D.read a = .nan s f := by
  have := read_nan h
  rw [hn] at this
  cases hr : D.read a with
  | number s m e => rw [hr] at this; simp [Datum.isNaN] at this
  | infinity s => rw [hr] at this; simp [Datum.isNaN] at this
  | nan s f => exact ⟨s, f, rfl⟩

theorem isN_flip {a : Nat} (h : a < 2 * signB) : isN (flipW a) = isN a := by
  unfold isN flipW
  congr 2
  unfold signB at *
  split <;> omega

/-- what is told is one NaN, or none -/
theorem one_nan {o : Option Datum} (h : ∀ d, o = some d → d.isNaN = false) : fcan ((o.map D.write).getD nanB) = (o.map D.write).getD nanB ∧ (o.map D.write).getD nanB < 2 * signB := by
  cases o with
  | none => exact ⟨by decide, nanB_lt⟩
  | some d =>
    have := write_ok (h d rfl)
    refine ⟨?_, this.2⟩
    show fcan (D.write d) = D.write d
    unfold fcan
    rw [this.1]
    rfl

theorem fmul_lt (a b : Nat) : fmul a b < 2 * signB ∧ fcan (fmul a b) = fmul a b := by
  have := one_nan (o := (D.read a).product (D.read b)) (fun d h => product_ok h)
  exact ⟨this.2, this.1⟩

end Go.Proofs.YtdkencepmdfacaaGreatDoor

namespace Go.Proofs.YtdkencepmdfacaaGreatDoor
open Ieee

/-- how many bits a number has -/
def bitLen (n : Nat) : Nat := if n = 0 then 0 else n.log2 + 1

/-- what the document tells of w 2^e, and something less than 2^e more, if there is a rest -/
def rndQ (w : Nat) (e : Int) : Int := if e + (bitLen w : Int) - 53 < -1074 then -1074 else e + (bitLen w : Int) - 53
def rndM (w n : Nat) (rest : Bool) : Nat := w / 2 ^ n + (if 2 ^ (n - 1) < w % 2 ^ n ∨ (w % 2 ^ n = 2 ^ (n - 1) ∧ (rest = true ∨ w / 2 ^ n % 2 = 1)) then 1 else 0)
def rndR (w : Nat) (e : Int) (rest : Bool) : Nat :=
  if 127 < rndQ w e - e then 0
  else
    let m := if rndQ w e - e ≤ 0 then w * 2 ^ (e - rndQ w e).toNat else rndM w (rndQ w e - e).toNat rest
    if 971 < rndQ w e then infB else if infB ≤ (rndQ w e + 1074).toNat * 4503599627370496 + m then infB else (rndQ w e + 1074).toNat * 4503599627370496 + m
def rnd (s : Bool) (w : Nat) (e : Int) (rest : Bool) : Nat := D.word s (rndR w e rest)

theorem cut_even (s : Bool) (n drop : Nat) : Toward.even.cut s n drop = n / 2 ^ min drop (n.log2 + 2) + (if 2 ^ min drop (n.log2 + 2) < 2 * (n % 2 ^ min drop (n.log2 + 2)) ∨ (2 ^ min drop (n.log2 + 2) = 2 * (n % 2 ^ min drop (n.log2 + 2)) ∧ n / 2 ^ min drop (n.log2 + 2) % 2 = 1) then 1 else 0) := by
  unfold Toward.cut
  simp only [Nat.one_shiftLeft]
  congr 1
  split
  · rename_i h
    rcases h with h | ⟨h1, h2⟩
    · simp [h]
    · rw [← h1]
      simp [h2]
  · rename_i h
    rw [not_or, not_and] at h
    obtain ⟨h1, h2⟩ := h
    have e1 : decide (2 ^ min drop (n.log2 + 2) < 2 * (n % 2 ^ min drop (n.log2 + 2))) = false := decide_eq_false h1
    rw [e1]
    by_cases h3 : 2 ^ min drop (n.log2 + 2) = 2 * (n % 2 ^ min drop (n.log2 + 2))
    · have := h2 h3
      have e2 : (n / 2 ^ min drop (n.log2 + 2) % 2 == 1) = false := by rw [beq_eq_false_iff_ne]; exact this
      simp [e2]
    · have e3 : (2 ^ min drop (n.log2 + 2) == 2 * (n % 2 ^ min drop (n.log2 + 2))) = false := by rw [beq_eq_false_iff_ne]; exact h3
      simp [e3]

theorem pow_split {n : Nat} (h : 0 < n) : 2 ^ n = 2 * 2 ^ (n - 1) := by
  obtain ⟨k, rfl⟩ : ∃ k, n = k + 1 := ⟨n - 1, by omega⟩
  rw [Nat.pow_succ, Nat.add_sub_cancel, Nat.mul_comm]

/-- the cut is the document's, without a rest -/
theorem cut_rnd (s : Bool) {w n : Nat} (hn : 0 < n) : Toward.even.cut s w n = rndM w n false := by
  rw [cut_even]
  unfold rndM
  have hlog := Nat.lt_log2_self (n := w)
  by_cases h : n ≤ w.log2 + 2
  · rw [Nat.min_eq_left h, pow_split hn]
    congr 1
    have e1 : (2 * 2 ^ (n - 1) < 2 * (w % (2 * 2 ^ (n - 1))) ∨ 2 * 2 ^ (n - 1) = 2 * (w % (2 * 2 ^ (n - 1))) ∧ w / (2 * 2 ^ (n - 1)) % 2 = 1) ↔ (2 ^ (n - 1) < w % (2 * 2 ^ (n - 1)) ∨ (w % (2 * 2 ^ (n - 1)) = 2 ^ (n - 1) ∧ (false = true ∨ w / (2 * 2 ^ (n - 1)) % 2 = 1))) := by
      constructor
      · rintro (h | ⟨h1, h2⟩)
        · left; omega
        · right; exact ⟨by omega, .inr h2⟩
      · rintro (h | ⟨h1, h2 | h2⟩)
        · left; omega
        · cases h2
        · right; exact ⟨by omega, h2⟩
    by_cases h2 : (2 ^ (n - 1) < w % (2 * 2 ^ (n - 1)) ∨ (w % (2 * 2 ^ (n - 1)) = 2 ^ (n - 1) ∧ (false = true ∨ w / (2 * 2 ^ (n - 1)) % 2 = 1)))
    · rw [if_pos h2, if_pos (e1.2 h2)]
    · rw [if_neg h2, if_neg (fun h => h2 (e1.1 h))]
  · have hle : w.log2 + 2 ≤ n - 1 := by omega
    have hp : 2 ^ (w.log2 + 2) ≤ 2 ^ (n - 1) := Nat.pow_le_pow_right (by decide) hle
    have hp2 : 2 ^ (n - 1) ≤ 2 ^ n := Nat.pow_le_pow_right (by decide) (by omega)
    have h4 : 2 ^ (w.log2 + 2) = 2 * 2 ^ (w.log2 + 1) := by rw [Nat.pow_succ, Nat.mul_comm]
    have h3 : w < 2 ^ (w.log2 + 1) := hlog
    have hw2 : w < 2 ^ n := by omega
    have hw3 : w < 2 ^ (w.log2 + 2) := by omega
    rw [Nat.min_eq_right (by omega), Nat.div_eq_of_lt hw3, Nat.mod_eq_of_lt hw3, Nat.div_eq_of_lt hw2, Nat.mod_eq_of_lt hw2]
    rw [if_neg (by omega), if_neg (by omega)]

theorem cut_zero (s : Bool) (n : Nat) : Toward.even.cut s n 0 = n := by
  rw [cut_even, Nat.min_eq_left (by omega), Nat.pow_zero, Nat.div_one, Nat.mod_one]
  simp

theorem bitLen_pos {w : Nat} (h : w ≠ 0) : bitLen w = w.log2 + 1 := if_neg h

theorem log_le (w : Nat) (h : w ≠ 0) : 2 ^ w.log2 ≤ w := Nat.log2_self_le h

/-- how the document rounds, where nothing is left over -/
theorem rnd_nearest (s : Bool) {w : Nat} (e : Int) (hw : w ≠ 0) (hb : w < 2 ^ 127) : rnd s w e false = D.nearest s w e := by
  have hbl := bitLen_pos hw
  have hl : w.log2 < 127 := (Nat.log2_lt hw).2 hb
  have hlast : max (e + (w.log2 : Int) - (D.fractionBits : Int)) D.leastPlace = rndQ w e := by
    unfold rndQ
    rw [hbl, D_least, show (D.fractionBits : Int) = 52 from rfl]
    split
    · rw [Int.max_eq_right (by omega)]
    · rw [Int.max_eq_left (by omega)]
      omega
  unfold rnd Format.nearest
  rw [if_neg hw]
  simp only [hlast]
  simp only [D_least, D_bin, D_inf]
  congr 1
  have hq : -1074 ≤ rndQ w e := by
    unfold rndQ
    split <;> omega
  unfold rndR
  rw [Int.sub_neg]
  by_cases h1 : rndQ w e - e ≤ 0
  · rw [if_neg (by omega), if_pos h1]
    rw [show (rndQ w e - e).toNat = 0 by omega, cut_zero, Nat.shiftLeft_eq]
    by_cases h2 : 971 < rndQ w e
    · rw [if_pos h2]
      have hge : 4503599627370496 ≤ w * 2 ^ (e - rndQ w e).toNat := by
        have hk : (e - rndQ w e).toNat = 52 - w.log2 := by
          unfold rndQ at h2 ⊢
          rw [hbl] at h2 ⊢
          split
          · rename_i h3
            rw [if_pos h3] at h2
            omega
          · omega
        have hl52 : w.log2 ≤ 52 := by
          unfold rndQ at h1 h2
          rw [hbl] at h1 h2
          split at h1
          · rename_i h3
            rw [if_pos h3] at h2
            omega
          · omega
        rw [hk]
        calc 4503599627370496 = 2 ^ w.log2 * 2 ^ (52 - w.log2) := by rw [← Nat.pow_add, show w.log2 + (52 - w.log2) = 52 by omega]
          _ ≤ w * 2 ^ (52 - w.log2) := Nat.mul_le_mul_right _ (log_le w hw)
      have : 9218868437227405312 ≤ (rndQ w e + 1074).toNat * 4503599627370496 + w * 2 ^ (e - rndQ w e).toNat := by omega
      rw [Nat.min_eq_right this]
      rfl
    · rw [if_neg h2]
      unfold infB
      split
      · rename_i h3
        rw [Nat.min_eq_right h3]
      · rename_i h3
        rw [Nat.min_eq_left (by omega)]
  · rw [if_neg h1]
    rw [show (e - rndQ w e).toNat = 0 by omega, Nat.shiftLeft_zero, cut_rnd s (by omega)]
    by_cases h0 : 127 < rndQ w e - e
    · rw [if_pos h0]
      have hqq : rndQ w e = -1074 := by
        unfold rndQ at h0 ⊢
        rw [hbl] at h0 ⊢
        split
        · rfl
        · rename_i h3
          rw [if_neg h3] at h0
          omega
      have hm : rndM w (rndQ w e - e).toNat false = 0 := by
        obtain ⟨n, hn⟩ : ∃ n, n = (rndQ w e - e).toNat := ⟨_, rfl⟩
        have hn127 : 127 ≤ n - 1 := by omega
        rw [← hn]
        unfold rndM
        have hp : 2 ^ 127 ≤ 2 ^ (n - 1) := Nat.pow_le_pow_right (by decide) hn127
        have hp2 : 2 ^ (n - 1) ≤ 2 ^ n := Nat.pow_le_pow_right (by decide) (by omega)
        rw [Nat.div_eq_of_lt (by omega), Nat.mod_eq_of_lt (by omega), if_neg (by omega)]
      rw [hm, hqq]
      rfl
    · rw [if_neg h0]
      by_cases h2 : 971 < rndQ w e
      · rw [if_pos h2]
        have hk : (rndQ w e - e).toNat = w.log2 - 52 := by
          unfold rndQ at h2 ⊢
          rw [hbl] at h2 ⊢
          split
          · rename_i h3
            rw [if_pos h3] at h2
            omega
          · omega
        have hl52 : 52 ≤ w.log2 := by omega
        have hge : 4503599627370496 ≤ rndM w (rndQ w e - e).toNat false := by
          rw [hk]
          unfold rndM
          have : 4503599627370496 ≤ w / 2 ^ (w.log2 - 52) := by
            rw [Nat.le_div_iff_mul_le (Nat.two_pow_pos _)]
            calc 4503599627370496 * 2 ^ (w.log2 - 52) = 2 ^ w.log2 := by rw [show (4503599627370496 : Nat) = 2 ^ 52 by decide, ← Nat.pow_add, show 52 + (w.log2 - 52) = w.log2 by omega]
              _ ≤ w := log_le w hw
          omega
        have : 9218868437227405312 ≤ (rndQ w e + 1074).toNat * 4503599627370496 + rndM w (rndQ w e - e).toNat false := by omega
        rw [Nat.min_eq_right this]
        rfl
      · rw [if_neg h2]
        unfold infB
        split
        · rename_i h3
          rw [Nat.min_eq_right h3]
        · rename_i h3
          rw [Nat.min_eq_left (by omega)]

/-! ### The sum -/
/-- an amount, as the document takes it -/
def takenM (r : Nat) : Nat := if r < 4503599627370496 then r else 4503599627370496 + r % 4503599627370496
def takenE (r : Nat) : Int := if r < 4503599627370496 then -1074 else (r / 4503599627370496 : Nat) - 1075

theorem read_num (s : Bool) {r : Nat} (h : r < infB) : D.read (D.word s r) = .number s (takenM r) (takenE r) := by
  rw [read_word s r (Nat.lt_trans h (by decide))]
  unfold takenM takenE
  unfold infB at h
  split
  · rfl
  · rename_i h2
    congr 1
    omega

theorem taken_lt {r : Nat} : takenM r < 9007199254740992 := by
  unfold takenM
  split <;> omega
theorem takenE_ge (r : Nat) : -1074 ≤ takenE r := by
  unfold takenE
  split <;> omega
theorem takenE_le {r : Nat} (h : r < infB) : takenE r ≤ 971 := by
  unfold infB at h
  unfold takenE
  split <;> omega
/-- the amount of a rung back -/
theorem taken_back (r : Nat) : (takenE r + 1074).toNat * 4503599627370496 + takenM r = r := by
  unfold takenE takenM
  split
  · omega
  · omega

/-- a number that the format has is its own nearest -/
theorem nearest_taken (s : Bool) {r : Nat} (h : r < infB) : D.nearest s (takenM r) (takenE r) = D.word s r := by
  by_cases h0 : takenM r = 0
  · have hr : r = 0 := by
      unfold takenM at h0
      split at h0
      · exact h0
      · omega
    subst hr
    unfold Format.nearest
    rw [if_pos h0]
  · rw [← rnd_nearest s (takenE r) h0 (Nat.lt_trans taken_lt (by decide))]
    unfold rnd
    congr 1
    have hbl : bitLen (takenM r) ≤ 53 := by
      rw [bitLen_pos h0]
      have : (takenM r).log2 < 53 := (Nat.log2_lt h0).2 taken_lt
      omega
    have hq : rndQ (takenM r) (takenE r) = takenE r := by
      unfold rndQ
      by_cases hs : r < 4503599627370496
      · have he : takenE r = -1074 := if_pos hs
        have h3 : takenM r = r := if_pos hs
        have h2 : bitLen (takenM r) ≤ 52 := by
          rw [bitLen_pos h0]
          have : (takenM r).log2 < 52 := (Nat.log2_lt h0).2 (by rw [h3]; exact hs)
          omega
        rw [he, if_pos (by omega)]
      · have h3 : takenM r = 4503599627370496 + r % 4503599627370496 := if_neg hs
        have h2 : bitLen (takenM r) = 53 := by
          have : 52 ≤ (takenM r).log2 := (Nat.le_log2 h0).2 (by rw [h3]; omega)
          rw [bitLen_pos h0] at hbl ⊢
          omega
        have := takenE_ge r
        rw [h2, if_neg (by omega)]
        omega
    unfold rndR
    have hle := takenE_le h
    rw [hq, if_neg (show ¬ 127 < takenE r - takenE r by omega), if_pos (show takenE r - takenE r ≤ 0 by omega), Int.sub_self, Int.toNat_zero, Nat.pow_zero, Nat.mul_one]
    simp only []
    rw [if_neg (show ¬ 971 < takenE r by omega), taken_back, if_neg (by omega)]

theorem log2_is {w k : Nat} (h1 : 2 ^ k ≤ w) (h2 : w < 2 ^ (k + 1)) : w.log2 = k := by
  have h0 : w ≠ 0 := by have := Nat.two_pow_pos k; omega
  have a := (Nat.le_log2 h0).2 h1
  have b := (Nat.log2_lt h0).2 h2
  omega

theorem takenE_mono {x y : Nat} (h : y ≤ x) : takenE y ≤ takenE x := by
  unfold takenE
  split <;> split <;> omega

/-- amounts: the greater rung is the greater amount, at the lesser one's place -/
theorem taken_mono {x y d : Nat} (h : y < x) (hd : takenE x - takenE y = (d : Int)) : takenM y < takenM x * 2 ^ d := by
  by_cases hd0 : d = 0
  · subst hd0
    have b1 := taken_back x
    have b2 := taken_back y
    have he : takenE x = takenE y := by omega
    rw [he] at b1
    rw [Nat.pow_zero, Nat.mul_one]
    omega
  · have hx : ¬ x < 4503599627370496 := by
      intro hx
      have e1 : takenE x = -1074 := if_pos hx
      have := takenE_ge y
      omega
    have hm : takenM x = 4503599627370496 + x % 4503599627370496 := if_neg hx
    have hy : takenM y < 9007199254740992 := taken_lt
    have hp : 2 ≤ 2 ^ d := by
      calc 2 = 2 ^ 1 := rfl
        _ ≤ 2 ^ d := Nat.pow_le_pow_right (by decide) (by omega)
    have : 4503599627370496 * 2 ≤ takenM x * 2 ^ d := Nat.mul_le_mul (by omega) hp
    omega

theorem takenM_pos {x : Nat} (h : x ≠ 0) : 0 < takenM x := by
  unfold takenM
  split <;> omega

theorem signed_zero (s : Bool) (m : Nat) : signed s m 0 = if s then -(m : Int) else m := by
  unfold signed
  rw [Nat.shiftLeft_zero]
theorem signed_up (s : Bool) (m d : Nat) : signed s m d = if s then -((m * 2 ^ d : Nat) : Int) else ((m * 2 ^ d : Nat) : Int) := by
  unfold signed
  rw [Nat.shiftLeft_eq]

theorem log2_scale {m : Nat} (d : Nat) (hm : 0 < m) : (m * 2 ^ d).log2 = m.log2 + d := by
  refine log2_is ?_ ?_
  · rw [Nat.pow_add]
    exact Nat.mul_le_mul_right _ (log_le m (by omega))
  · rw [show m.log2 + d + 1 = (m.log2 + 1) + d by omega, Nat.pow_add]
    exact Nat.mul_lt_mul_of_pos_right Nat.lt_log2_self (Nat.two_pow_pos d)

theorem cut_scale (s : Bool) {m : Nat} (d k : Nat) (hm : 0 < m) : Toward.even.cut s (m * 2 ^ d) (k + d) = Toward.even.cut s m k := by
  rw [cut_even, cut_even, log2_scale d hm, show min (k + d) (m.log2 + d + 2) = min k (m.log2 + 2) + d by omega]
  generalize min k (m.log2 + 2) = g
  have hp := Nat.two_pow_pos d
  have e1 : m * 2 ^ d / 2 ^ (g + d) = m / 2 ^ g := by rw [Nat.pow_add, Nat.mul_div_mul_right _ _ hp]
  have e2 : m * 2 ^ d % 2 ^ (g + d) = m % 2 ^ g * 2 ^ d := by rw [Nat.pow_add, Nat.mul_mod_mul_right]
  rw [e1, e2, Nat.pow_add]
  congr 1
  have h1 : (2 ^ g * 2 ^ d < 2 * (m % 2 ^ g * 2 ^ d)) ↔ (2 ^ g < 2 * (m % 2 ^ g)) := by
    rw [← Nat.mul_assoc]
    exact Nat.mul_lt_mul_right hp
  have h2 : (2 ^ g * 2 ^ d = 2 * (m % 2 ^ g * 2 ^ d)) ↔ (2 ^ g = 2 * (m % 2 ^ g)) := by
    rw [← Nat.mul_assoc]
    exact Nat.mul_left_inj (by omega)
  simp only [h1, h2]

/-- a number may be written at a lesser place -/
theorem nearest_scale (s : Bool) {m d : Nat} {e f : Int} (hm : 0 < m) (hd : e - f = (d : Int)) : D.nearest s (m * 2 ^ d) f = D.nearest s m e := by
  have hp := Nat.two_pow_pos d
  have hmd : m * 2 ^ d ≠ 0 := by have := Nat.mul_pos hm hp; omega
  unfold Format.nearest
  rw [if_neg hmd, if_neg (by omega), log2_scale d hm]
  have hl : f + ((m.log2 + d : Nat) : Int) - (D.fractionBits : Int) = e + (m.log2 : Int) - (D.fractionBits : Int) := by omega
  simp only [hl]
  generalize max (e + (m.log2 : Int) - (D.fractionBits : Int)) D.leastPlace = last
  have key : Toward.even.cut s ((m * 2 ^ d) <<< (f - last).toNat) (last - f).toNat = Toward.even.cut s (m <<< (e - last).toNat) (last - e).toNat := by
    by_cases h1 : last ≤ f
    · rw [show (last - f).toNat = 0 by omega, show (last - e).toNat = 0 by omega, cut_zero, cut_zero, Nat.shiftLeft_eq, Nat.shiftLeft_eq, Nat.mul_assoc, ← Nat.pow_add]
      congr 2
      omega
    · by_cases h2 : last ≤ e
      · rw [show (f - last).toNat = 0 by omega, Nat.shiftLeft_zero, show (last - e).toNat = 0 by omega, cut_zero, Nat.shiftLeft_eq]
        have hk : d = (e - last).toNat + (last - f).toNat := by omega
        have h3 : m * 2 ^ d = m * 2 ^ (e - last).toNat * 2 ^ (last - f).toNat := by
          conv => lhs; rw [hk]
          rw [Nat.pow_add, Nat.mul_assoc]
        have h4 := cut_scale s (last - f).toNat 0 (Nat.mul_pos hm (Nat.two_pow_pos (e - last).toNat))
        rw [Nat.zero_add, cut_zero] at h4
        rw [h3]
        exact h4
      · rw [show (f - last).toNat = 0 by omega, show (e - last).toNat = 0 by omega, Nat.shiftLeft_zero, Nat.shiftLeft_zero, show (last - f).toNat = (last - e).toNat + d by omega]
        exact cut_scale s d _ hm
  rw [key]

theorem read_inf (s : Bool) : D.read (D.word s infB) = .infinity s := by
  rw [read_word s infB (by decide)]
  rw [if_neg (by decide), if_neg (by decide), if_pos (by decide)]

/-! ### The difference, the product -/

theorem takenM_zero (x : Nat) : takenM x = 0 ↔ x = 0 := by
  constructor
  · intro h
    by_cases hx : x = 0
    · exact hx
    · have := takenM_pos hx
      omega
  · rintro rfl
    rfl

end Go.Proofs.YtdkencepmdfacaaGreatDoor

namespace Go.Proofs.YtdkencepmdfacaaGreatDoor
open Ieee

end Go.Proofs.YtdkencepmdfacaaGreatDoor

namespace Go.Proofs.YtdkencepmdfacaaGreatDoor
open Ieee

/-- the number nearest to a whole one -/
def fof (n : Int) : Nat := D.nearest (decide (n < 0)) n.natAbs 0

/-! ### How two stand -/
def fval (a : Nat) : Int := if signB ≤ a then -((a % signB : Nat) : Int) else ((a % signB : Nat) : Int)

theorem cmp_same {p q p' q' : Int} (h1 : p < q ↔ p' < q') (h2 : p = q ↔ p' = q') : compare p q = compare p' q' := by
  simp only [compare, compareOfLessAndEq, h1, h2]

/-- the amounts of two rungs, at the lesser place -/
theorem amounts (x y : Nat) : (takenM x * 2 ^ (takenE x - min (takenE x) (takenE y)).toNat < takenM y * 2 ^ (takenE y - min (takenE x) (takenE y)).toNat ↔ x < y) ∧
    (takenM x * 2 ^ (takenE x - min (takenE x) (takenE y)).toNat = takenM y * 2 ^ (takenE y - min (takenE x) (takenE y)).toNat ↔ x = y) := by
  have lt : ∀ x y : Nat, x < y → takenM x * 2 ^ (takenE x - min (takenE x) (takenE y)).toNat < takenM y * 2 ^ (takenE y - min (takenE x) (takenE y)).toNat := by
    intro x y h
    have hmono := takenE_mono (Nat.le_of_lt h)
    rw [Int.min_eq_left hmono, Int.sub_self, Int.toNat_zero, Nat.pow_zero, Nat.mul_one]
    exact taken_mono h (by omega)
  rcases Nat.lt_trichotomy x y with h | h | h
  · have := lt x y h
    exact ⟨⟨fun _ => h, fun _ => this⟩, ⟨fun e => by omega, fun e => by omega⟩⟩
  · subst h
    exact ⟨⟨fun e => by omega, fun e => by omega⟩, ⟨fun _ => rfl, fun _ => rfl⟩⟩
  · have := lt y x h
    rw [Int.min_comm] at this
    exact ⟨⟨fun e => by omega, fun e => by omega⟩, ⟨fun e => by omega, fun e => by omega⟩⟩

theorem amount_zero (x d : Nat) : takenM x * 2 ^ d = 0 ↔ x = 0 := by
  have := Nat.two_pow_pos d
  rw [Nat.mul_eq_zero, takenM_zero]
  omega

theorem word_val (s : Bool) {x : Nat} (h : x < signB) : fval (D.word s x) = if s = true then -(x : Int) else (x : Int) := by
  unfold fval
  rw [word_mod s h]
  unfold Format.word
  rw [D_sw]
  unfold signB at *
  cases s
  · simp
    omega
  · simp

theorem order_val {a b : Nat} (ha : a < 2 * signB) (hb : b < 2 * signB) (hna : isN a = false) (hnb : isN b = false) : D.order a b = some (compare (fval a) (fval b)) := by
  obtain ⟨wa, la⟩ := word_of ha
  obtain ⟨wb, lb⟩ := word_of hb
  have na : ¬ infB < a % signB := of_decide_eq_false hna
  have nb : ¬ infB < b % signB := of_decide_eq_false hnb
  generalize decide (signB ≤ a) = s at wa
  generalize decide (signB ≤ b) = t at wb
  generalize a % signB = x at wa la na
  generalize b % signB = y at wb lb nb
  subst wa wb
  rw [word_val s la, word_val t lb]
  unfold Format.order
  by_cases hxi : x = infB
  · by_cases hyi : y = infB
    · subst hxi hyi
      rw [read_inf, read_inf]
      simp only [Datum.order]
      cases s <;> cases t <;> decide
    · rw [hxi, read_inf, read_num t (by omega)]
      simp only [Datum.order]
      congr 1
      have h1 : y < infB := by omega
      generalize infB = I at h1
      cases s
      · simp only [Bool.false_eq_true, if_false]
        symm
        rw [Int.compare_eq_gt]
        cases t <;> simp <;> omega
      · simp only [if_true]
        symm
        rw [Int.compare_eq_lt]
        cases t <;> simp <;> omega
  · by_cases hyi : y = infB
    · rw [hyi, read_inf, read_num s (by omega)]
      simp only [Datum.order]
      congr 1
      have h1 : x < infB := by omega
      generalize infB = I at h1
      cases t
      · simp only [Bool.false_eq_true, if_false]
        symm
        rw [Int.compare_eq_lt]
        cases s <;> simp <;> omega
      · simp only [if_true]
        symm
        rw [Int.compare_eq_gt]
        cases s <;> simp <;> omega
    · rw [read_num s (by omega), read_num t (by omega)]
      simp only [Datum.order]
      congr 1
      obtain ⟨am1, am2⟩ := amounts x y
      rw [signed_up, signed_up]
      have z1 := amount_zero x (takenE x - min (takenE x) (takenE y)).toNat
      have z2 := amount_zero y (takenE y - min (takenE x) (takenE y)).toNat
      generalize takenM x * 2 ^ (takenE x - min (takenE x) (takenE y)).toNat = X at am1 am2 z1
      generalize takenM y * 2 ^ (takenE y - min (takenE x) (takenE y)).toNat = Y at am1 am2 z2
      refine cmp_same ?_ ?_
      · cases s <;> cases t <;> simp only [Bool.false_eq_true, if_false, if_true] <;> omega
      · cases s <;> cases t <;> simp only [Bool.false_eq_true, if_false, if_true] <;> omega
end Go.Proofs.YtdkencepmdfacaaGreatDoor

namespace Go.Proofs.YtdkencepmdfacaaGreatDoor
open Ieee

def fless (a b : Nat) : Bool := match D.order a b with | some .lt => true | _ => false
def fequal (a b : Nat) : Bool := match D.order a b with | some .eq => true | _ => false

theorem order_nan {a b : Nat} (ha : a < 2 * signB) (hb : b < 2 * signB) (h : isN a = true ∨ isN b = true) : D.order a b = none := by
  unfold Format.order
  rcases h with h | h
  · obtain ⟨s, f, hr⟩ := read_isN ha h
    rw [hr]
    cases D.read b <;> rfl
  · obtain ⟨s, f, hr⟩ := read_isN hb h
    rw [hr]
    cases D.read a <;> rfl

theorem fless_val {a b : Nat} (ha : a < 2 * signB) (hb : b < 2 * signB) : fless a b = (!isN a && !isN b && decide (fval a < fval b)) := by
  unfold fless
  by_cases h : isN a = true ∨ isN b = true
  · rw [order_nan ha hb h]
    rcases h with h | h <;> simp [h]
  · have h1 : isN a = false := by
      cases hx : isN a
      · rfl
      · exact absurd (.inl hx) h
    have h2 : isN b = false := by
      cases hx : isN b
      · rfl
      · exact absurd (.inr hx) h
    rw [order_val ha hb h1 h2, h1, h2]
    by_cases hlt : fval a < fval b
    · rw [Int.compare_eq_lt.2 hlt]
      simp [hlt]
    · have : compare (fval a) (fval b) ≠ .lt := fun e => hlt (Int.compare_eq_lt.1 e)
      simp only [hlt, decide_false, Bool.and_false]
      split
      · rename_i e
        injection e with e
        exact absurd e this
      · rfl
theorem fequal_val {a b : Nat} (ha : a < 2 * signB) (hb : b < 2 * signB) : fequal a b = (!isN a && !isN b && decide (fval a = fval b)) := by
  unfold fequal
  by_cases h : isN a = true ∨ isN b = true
  · rw [order_nan ha hb h]
    rcases h with h | h <;> simp [h]
  · have h1 : isN a = false := by
      cases hx : isN a
      · rfl
      · exact absurd (.inl hx) h
    have h2 : isN b = false := by
      cases hx : isN b
      · rfl
      · exact absurd (.inr hx) h
    rw [order_val ha hb h1 h2, h1, h2]
    by_cases hlt : fval a = fval b
    · rw [Int.compare_eq_eq.2 hlt]
      simp [hlt]
    · have : compare (fval a) (fval b) ≠ .eq := fun e => hlt (Int.compare_eq_eq.1 e)
      simp only [hlt, decide_false, Bool.and_false]
      split
      · rename_i e
        injection e with e
        exact absurd e this
      · rfl

theorem isN_iff (a : Nat) : isN a = true ↔ infB < a % signB := by
  unfold isN
  exact decide_eq_true_iff

end Go.Proofs.YtdkencepmdfacaaGreatDoor

namespace Go.Proofs.YtdkencepmdfacaaGreatDoor
open Ieee

/-- the rung that a number is rounded to -/
def rung (m : Nat) (e : Int) : Nat := (D.nearest false m e)
theorem nearest_is (s : Bool) (m : Nat) (e : Int) : D.nearest s m e = D.word s (rung m e) ∧ rung m e ≤ infB := by
  obtain ⟨r, hr, h⟩ := nearest_rung s m e
  have h1 : rung m e = r := by
    unfold rung
    rw [h false]
    unfold Format.word
    simp
  rw [h1]
  exact ⟨h s, hr⟩

end Go.Proofs.YtdkencepmdfacaaGreatDoor

namespace Go.Proofs.YtdkencepmdfacaaGreatDoor
open Ieee

/-- the exact value of a finite number, in units of 2^-1074 -/
def exact (s : Bool) (x : Nat) : Int := signed s (takenM x) (takenE x + 1074).toNat

/-- a value of 53 digits at most is a rung's -/
theorem rep {m : Nat} (hm : m < 9007199254740992) : ∀ k : Nat, k ≤ 2045 → ∃ r, r < infB ∧ takenM r * 2 ^ (takenE r + 1074).toNat = m * 2 ^ k := by
  intro k
  induction k generalizing m with
  | zero =>
    intro _
    refine ⟨m, Nat.lt_trans hm (by decide), ?_⟩
    by_cases c : m < 4503599627370496
    · have e1 : takenE m = -1074 := if_pos c
      have e2 : takenM m = m := if_pos c
      rw [e1, e2]
      rfl
    · have e1 : takenE m = -1074 := by
        unfold takenE
        rw [if_neg c]
        omega
      have e2 : takenM m = m := by
        unfold takenM
        rw [if_neg c]
        omega
      rw [e1, e2]
      rfl
  | succ k ih =>
    intro hk
    by_cases c : m < 4503599627370496
    · obtain ⟨r, h1, h2⟩ := ih (m := 2 * m) (by omega) (by omega)
      refine ⟨r, h1, h2.trans ?_⟩
      rw [Nat.pow_succ, Nat.mul_comm 2 m, Nat.mul_assoc, Nat.mul_comm 2]
    · refine ⟨(k + 1) * 4503599627370496 + m, ?_, ?_⟩
      · unfold infB
        omega
      · have c2 : ¬ (k + 1) * 4503599627370496 + m < 4503599627370496 := by omega
        have e1 : takenE ((k + 1) * 4503599627370496 + m) = (k + 1 : Nat) - 1074 := by
          unfold takenE
          rw [if_neg c2]
          omega
        have e2 : takenM ((k + 1) * 4503599627370496 + m) = m := by
          unfold takenM
          rw [if_neg c2]
          omega
        rw [e1, e2, show (((k + 1 : Nat) : Int) - 1074 + 1074).toNat = k + 1 by omega]

/-- a rung's exact value, and its sign -/
theorem exact_is (s : Bool) (x : Nat) : exact s x = if s = true then -((takenM x * 2 ^ (takenE x + 1074).toNat : Nat) : Int) else ((takenM x * 2 ^ (takenE x + 1074).toNat : Nat) : Int) := by
  unfold exact
  rw [signed_up]
end Go.Proofs.YtdkencepmdfacaaGreatDoor

namespace Go.Proofs.YtdkencepmdfacaaGreatDoor
open Ieee

def NN (x : Nat) : Nat := takenM x * 2 ^ (takenE x + 1074).toNat
theorem exact_NN (s : Bool) (x : Nat) : exact s x = if s = true then -(NN x : Int) else (NN x : Int) := exact_is s x

end Go.Proofs.YtdkencepmdfacaaGreatDoor

namespace Go.Proofs.YtdkencepmdfacaaGreatDoor
open Ieee

end Go.Proofs.YtdkencepmdfacaaGreatDoor

namespace Go.Proofs.YtdkencepmdfacaaGreatDoor
open Ieee

end Go.Proofs.YtdkencepmdfacaaGreatDoor

namespace Go.Proofs.YtdkencepmdfacaaGreatDoor
open Ieee

/-- is it finite? -/
def Fin_ (a : Nat) : Prop := a < 2 * signB ∧ a % signB < infB
/-- its exact value, in units of 2^-1074 -/
def ex (a : Nat) : Int := exact (decide (signB ≤ a)) (a % signB)
/-- one, in such units -/
def Un : Nat := 2 ^ 1074
theorem Un_def : ∃ e : Nat, e = 1074 ∧ Un = 2 ^ e := by
  unfold Un
  exact ⟨_, rfl, rfl⟩
theorem Un_pos : 0 < Un := by
  obtain ⟨e, _, hU⟩ := Un_def
  rw [hU]
  exact Nat.two_pow_pos e

theorem inf_sign : infB < signB := by decide
theorem Fin_.lt {a : Nat} (h : Fin_ a) : a < 2 * signB := h.1
theorem sign_word (s : Bool) {x : Nat} (h : x < signB) : decide (signB ≤ D.word s x) = s := by
  unfold Format.word
  rw [D_sw]
  unfold signB at *
  cases s
  · simp only [Bool.false_eq_true, if_false]
    exact decide_eq_false (by omega)
  · simp only [if_true]
    exact decide_eq_true (by omega)
theorem ex_word (s : Bool) {x : Nat} (h : x < infB) : ex (D.word s x) = if s = true then -(NN x : Int) else (NN x : Int) := by
  unfold ex
  rw [word_mod s (Nat.lt_trans h inf_sign), sign_word s (Nat.lt_trans h inf_sign), exact_NN]

/-- a value that is a number's -/
def Rep (T : Int) : Prop := ∃ r, r < infB ∧ (NN r : Int) = (T.natAbs : Int)
theorem Rep.of {m : Nat} {T : Int} (hm : m < 9007199254740992) {k : Nat} (hk : k ≤ 2045) (h : T.natAbs = m * 2 ^ k) : Rep T := by
  obtain ⟨r, h1, h2⟩ := rep hm k hk
  refine ⟨r, h1, ?_⟩
  unfold NN
  rw [h2, h]
theorem Rep.neg {T : Int} (h : Rep T) : Rep (-T) := by
  obtain ⟨r, h1, h2⟩ := h
  exact ⟨r, h1, by rw [Int.natAbs_neg]; exact h2⟩

/-! ### Whole numbers -/

end Go.Proofs.YtdkencepmdfacaaGreatDoor

namespace Go.Proofs.YtdkencepmdfacaaGreatDoor
open Ieee

theorem mulU_le {a b : Int} : a * (Un : Int) ≤ b * (Un : Int) ↔ a ≤ b := by
  have hU := Un_pos
  exact Int.mul_le_mul_right (by omega)

theorem cut_whole (s : Bool) (m : Nat) : Toward.zero.cut s m 0 = m := by
  unfold Toward.cut
  simp
theorem cut_zero_of (s : Bool) {m k q : Nat} (h : m = q * 2 ^ k) : Toward.zero.cut s m k = q := by
  unfold Toward.cut
  simp only [Nat.shiftLeft_eq, Nat.one_mul]
  have hk := Nat.two_pow_pos k
  by_cases h0 : q = 0
  · rw [h, h0, Nat.zero_mul, Nat.zero_div]
    rfl
  · have hle : 2 ^ k ≤ m := by
      rw [h]
      exact Nat.le_mul_of_pos_left _ (by omega)
    have hm0 : m ≠ 0 := by omega
    have hl : k ≤ m.log2 := (Nat.le_log2 hm0).2 hle
    rw [Nat.min_eq_left (by omega), h, Nat.mul_div_cancel _ hk]
    rfl
theorem toInt_whole {a : Nat} {n : Int} (ha : Fin_ a) (h : ex a = n * (Un : Int)) : (D.read a).toInt .zero = some n := by
  obtain ⟨wa, la⟩ := word_of ha.1
  have hfin := ha.2
  obtain ⟨s, hs⟩ : ∃ s, s = decide (signB ≤ a) := ⟨_, rfl⟩
  obtain ⟨x, hx⟩ : ∃ x, x = a % signB := ⟨_, rfl⟩
  rw [← hs, ← hx] at wa
  rw [← hx] at la hfin
  have hexa : ex a = if s = true then -(NN x : Int) else (NN x : Int) := by
    rw [wa, ex_word s hfin]
  rw [show D.read a = D.read (D.word s x) by rw [← wa], read_num s hfin]
  have hge := takenE_ge x
  have hUp := Un_pos
  have hna : NN x = n.natAbs * Un := by
    have h1 : (ex a).natAbs = NN x := by
      rw [hexa]
      split <;> omega
    rw [← h1, h, Int.natAbs_mul, Int.natAbs_natCast]
  have key : Toward.zero.cut s (takenM x <<< (takenE x).toNat) (-takenE x).toNat = n.natAbs := by
    by_cases he : 0 ≤ takenE x
    · rw [show (-takenE x).toNat = 0 by omega, Nat.shiftLeft_eq, cut_whole]
      have h2 : NN x = takenM x * 2 ^ (takenE x).toNat * Un := by
        obtain ⟨e, he, hU⟩ := Un_def
        rw [hU]
        unfold NN
        rw [Nat.mul_assoc, ← Nat.pow_add]
        congr 2
        omega
      rw [hna] at h2
      exact (Nat.eq_of_mul_eq_mul_right hUp h2).symm
    · rw [show (takenE x).toNat = 0 by omega, Nat.shiftLeft_zero]
      refine cut_zero_of s ?_
      have hPp := Nat.two_pow_pos (takenE x + 1074).toNat
      have h2 : takenM x * 2 ^ (takenE x + 1074).toNat = n.natAbs * 2 ^ (-takenE x).toNat * 2 ^ (takenE x + 1074).toNat := by
        have h3 : n.natAbs * Un = n.natAbs * 2 ^ (-takenE x).toNat * 2 ^ (takenE x + 1074).toNat := by
          obtain ⟨e, he, hU⟩ := Un_def
          rw [hU, Nat.mul_assoc, ← Nat.pow_add]
          congr 2
          omega
        rw [← h3, ← hna]
        rfl
      exact Nat.eq_of_mul_eq_mul_right hPp h2
  show some (signed s (Toward.zero.cut s (takenM x <<< (takenE x).toNat) (-takenE x).toNat) 0) = _
  rw [key, signed_zero]
  congr 1
  have hsign : if s = true then n ≤ 0 else 0 ≤ n := by
    have hN : (0 : Int) ≤ NN x := by omega
    cases s
    · simp only [Bool.false_eq_true, if_false] at hexa ⊢
      have : (0 : Int) * (Un : Int) ≤ n * (Un : Int) := by rw [Int.zero_mul]; omega
      exact mulU_le.1 this
    · simp only [if_true] at hexa ⊢
      have : n * (Un : Int) ≤ (0 : Int) * (Un : Int) := by rw [Int.zero_mul]; omega
      exact mulU_le.1 this
  cases s
  · simp only [Bool.false_eq_true, if_false] at hsign ⊢
    omega
  · simp only [if_true] at hsign ⊢
    omega

/-! ### NumFloors -/

/-! ### NumCounts -/

end Go.Proofs.YtdkencepmdfacaaGreatDoor

namespace Go.Proofs.YtdkencepmdfacaaGreatDoor
open Ieee

end Go.Proofs.YtdkencepmdfacaaGreatDoor

namespace Go.Proofs.YtdkencepmdfacaaGreatDoor
open Ieee

theorem no_nan {a : Nat} (h : isN a = false) : a % signB ≤ infB := by
  have : ¬ infB < a % signB := of_decide_eq_false h
  omega

theorem word_nan {s : Bool} {r : Nat} (h : r ≤ infB) : isN (D.word s r) = false := by
  unfold isN
  rw [word_mod s (Nat.lt_of_le_of_lt h inf_sign)]
  exact decide_eq_false (by omega)

end Go.Proofs.YtdkencepmdfacaaGreatDoor

namespace Go.Proofs.YtdkencepmdfacaaGreatDoor
open Ieee

theorem Rep.upto {m : Nat} {T : Int} (hm : m ≤ 9007199254740992) {k : Nat} (hk : k ≤ 2044) (h : T.natAbs = m * 2 ^ k) : Rep T := by
  by_cases c : m < 9007199254740992
  · exact Rep.of c (by omega) h
  · refine Rep.of (m := 4503599627370496) (by decide) (k := k + 1) (by omega) ?_
    rw [h, show m = 4503599627370496 * 2 by omega, Nat.mul_assoc, Nat.pow_succ, Nat.mul_comm 2]

end Go.Proofs.YtdkencepmdfacaaGreatDoor

namespace Go.Proofs.YtdkencepmdfacaaGreatDoor
open Ieee

/-- a NaN that the machine draws -/
def drawnNaN (t : Nat) : Nat := (t % 2) * 2 ^ 63 + 0x7ff0000000000000 + 1 + (t / 2) % (2 ^ 52 - 1)
theorem drawn_nan (t : Nat) : isN (drawnNaN t) = true ∧ drawnNaN t < 2 * signB ∧ fcan (drawnNaN t) = nanB := by
  have h1 : drawnNaN t = (t % 2) * 9223372036854775808 + 9218868437227405312 + 1 + (t / 2) % 4503599627370495 := by
    unfold drawnNaN
    rfl
  have hx : t % 2 < 2 := Nat.mod_lt _ (by decide)
  have hy : (t / 2) % 4503599627370495 < 4503599627370495 := Nat.mod_lt _ (by decide)
  obtain ⟨x, ex⟩ : ∃ x, x = t % 2 := ⟨_, rfl⟩
  obtain ⟨y, ey⟩ : ∃ y, y = (t / 2) % 4503599627370495 := ⟨_, rfl⟩
  rw [← ex, ← ey] at h1
  rw [← ex] at hx
  rw [← ey] at hy
  clear ex ey
  have h2 : isN (drawnNaN t) = true := by
    rw [isN_iff, h1]
    unfold infB signB
    omega
  refine ⟨h2, ?_, ?_⟩
  · rw [h1]
    unfold signB
    omega
  · unfold fcan
    rw [if_pos h2]

section
variable {P : Program} (w : World)

theorem nan_cut (x y t : Nat) : (Question.nanBits .f64 x y).cut t = drawnNaN t := rfl
theorem nan_free (x y : Nat) : (Question.nanBits .f64 x y).forced = false := rfl

theorem mul_run (t : TypeId) (x y : Nat) : ∃ v n, v < 2 * signB ∧ fcan v = fmul x y ∧ (binOp .mul t (.float .f64 x) (.float .f64 y)).run P w = .ok (.float .f64 v) (w.drewN n) := by
  have hl := fmul_lt x y
  cases h : D.mul x y with
  | some r =>
    have e : fmul x y = r := by
      unfold fmul
      rw [h]
      rfl
    rw [e] at hl ⊢
    exact ⟨r, 0, hl.1, hl.2, run_float_arith w .mul t .f64 x y r h⟩
  | none =>
    obtain ⟨u, hu⟩ : ∃ u, u = w.tape w.drawn (.nanBits .f64 x y) := ⟨_, rfl⟩
    have e : fmul x y = nanB := by
      unfold fmul
      rw [h]
      rfl
    have h' : FloatKind.f64.format.mul x y = none := h
    refine ⟨drawnNaN u, 1, (drawn_nan u).2.1, (drawn_nan u).2.2.trans e.symm, ?_⟩
    simp [binOp, Op.floatArith, h', nan_cut, nan_free, hu]
    rfl

theorem fcan_plain {x : Nat} (h : isN x = false) : fcan x = x := by
  unfold fcan
  rw [h, if_neg (by decide)]

end
end Go.Proofs.YtdkencepmdfacaaGreatDoor

namespace Go.Proofs.YtdkencepmdfacaaGreatDoor
open Ieee

theorem fof_no (n : Int) : isN (fof n) = false := by
  unfold fof
  obtain ⟨h1, h2⟩ := nearest_is (decide (n < 0)) n.natAbs 0
  rw [h1]
  exact word_nan h2

/-- what stands above every finite number -/
theorem gt_max {b : Nat} (hb : b < signB) : (D.order b 9218868437227405311 == some .gt) = decide (b = infB) := by
  have hm : b % signB = b := Nat.mod_eq_of_lt hb
  by_cases hn : isN b = true
  · rw [order_nan (by omega) (by decide) (.inl hn)]
    have := (isN_iff b).1 hn
    rw [hm] at this
    rw [decide_eq_false (by omega)]
    rfl
  · rw [Bool.not_eq_true] at hn
    have h1 := no_nan hn
    rw [hm] at h1
    rw [order_val (by omega) (by decide) hn (by decide)]
    have hv : fval b = (b : Int) := by
      unfold fval
      rw [if_neg (by omega), hm]
    have hw : fval 9218868437227405311 = 9218868437227405311 := by decide
    rw [hv, hw]
    unfold infB at *
    by_cases c : b = 9218868437227405312
    · rw [decide_eq_true c, Int.compare_eq_gt.2 (by omega)]
      rfl
    · rw [decide_eq_false c]
      have : compare (b : Int) 9218868437227405311 ≠ .gt := fun e => by
        have := Int.compare_eq_gt.1 e
        omega
      cases h : compare (b : Int) 9218868437227405311
      · rfl
      · rfl
      · exact absurd h this
theorem eq_zero {b : Nat} (hb : b < 2 * signB) : (D.order b 0 == some .eq) = decide (b % signB = 0) := by
  have h := fequal_val hb (show 0 < 2 * signB by decide)
  have e : (D.order b 0 == some .eq) = fequal b 0 := by
    unfold fequal
    cases D.order b 0 with
    | none => rfl
    | some o => cases o <;> rfl
  rw [e, h]
  have hv : fval 0 = 0 := by decide
  rw [hv]
  by_cases hn : isN b = true
  · have := (isN_iff b).1 hn
    rw [hn, decide_eq_false (p := b % signB = 0) (by unfold infB at this; omega)]
    rfl
  · rw [Bool.not_eq_true] at hn
    rw [hn]
    have : (fval b = 0) ↔ (b % signB = 0) := by
      unfold fval
      split <;> omega
    simp only [this]
    simp
    intro h
    decide
theorem lt_tiny {b : Nat} (hb : b < signB) : (D.order b 4503599627370496 == some .lt) = decide (b < 4503599627370496) := by
  have hm : b % signB = b := Nat.mod_eq_of_lt hb
  have h := fless_val (show b < 2 * signB by omega) (show 4503599627370496 < 2 * signB by decide)
  have e : (D.order b 4503599627370496 == some .lt) = fless b 4503599627370496 := by
    unfold fless
    cases D.order b 4503599627370496 with
    | none => rfl
    | some o => cases o <;> rfl
  rw [e, h]
  have hw : fval 4503599627370496 = 4503599627370496 := by decide
  have hv : fval b = (b : Int) := by
    unfold fval
    rw [if_neg (by omega), hm]
  have hc : isN 4503599627370496 = false := by decide
  rw [hv, hw, hc]
  by_cases hn : isN b = true
  · have := (isN_iff b).1 hn
    rw [hm] at this
    rw [hn, decide_eq_false (p := b < 4503599627370496) (by unfold infB at this; omega)]
    rfl
  · rw [Bool.not_eq_true] at hn
    rw [hn]
    have : ((b : Int) < 4503599627370496) ↔ (b < 4503599627370496) := by omega
    simp only [this]
    rfl
theorem fless_is (a b : Nat) : fless a b = (D.order a b == some .lt) := by
  unfold fless
  cases D.order a b with
  | none => rfl
  | some o => cases o <;> rfl

/-! ### forms that the machine's words take -/
theorem xor_top {r : Nat} (h : r < 2 ^ 63) : r ^^^ 2 ^ 63 = 2 ^ 63 + r := by
  refine Nat.eq_of_testBit_eq fun i => ?_
  rw [Nat.testBit_xor, Nat.testBit_two_pow]
  rcases Nat.lt_trichotomy i 63 with c | c | c
  · rw [Nat.testBit_two_pow_add_gt c, decide_eq_false (by omega), Bool.xor_false]
  · subst c
    rw [Nat.testBit_two_pow_add_eq, decide_eq_true rfl, Bool.xor_true]
  · have h1 : 2 ^ 63 + r < 2 ^ i := Nat.lt_of_lt_of_le (show 2 ^ 63 + r < 2 ^ 64 by omega) (Nat.pow_le_pow_right (by decide) (by omega))
    rw [Nat.testBit_lt_two_pow h1, Nat.testBit_lt_two_pow (show r < 2 ^ i by omega), decide_eq_false (by omega)]
    rfl
theorem xor_flip {a : Nat} (ha : a < 2 * signB) : a ^^^ 2 ^ 63 = flipW a := by
  have h63 : (2 : Nat) ^ 63 = signB := by decide
  unfold flipW
  by_cases c : a < signB
  · rw [if_pos c, xor_top (by omega), h63]
    omega
  · rw [if_neg c]
    have h1 := xor_top (r := a - signB) (by omega)
    have h2 : 2 ^ 63 + (a - signB) = a := by omega
    rw [h2] at h1
    have h3 : a ^^^ 2 ^ 63 = ((a - signB) ^^^ 2 ^ 63) ^^^ 2 ^ 63 := by rw [h1]
    rw [h3, Nat.xor_assoc, Nat.xor_self, Nat.xor_zero]
theorem neg_is {a : Nat} (ha : a < 2 * signB) : fcan (Op.negFloat .f64 a) = fneg a := by
  have h : Op.negFloat .f64 a = flipW a := xor_flip ha
  rw [h]
  unfold fcan fneg
  rw [isN_flip ha]
theorem of_is (n : Int) : fcan (floatOfInt .f64 n) = fof n := by
  have h : floatOfInt .f64 n = fof n := rfl
  rw [h]
  exact fcan_plain (fof_no n)

/-! ### the machine's floor -/

end Go.Proofs.YtdkencepmdfacaaGreatDoor

namespace Go.Proofs.YtdkencepmdfacaaGreatDoor
open Go.RowKit Ieee

theorem ex_amount (a : Nat) : ex a = if signB ≤ a then -((NN (a % signB) : Nat) : Int) else ((NN (a % signB) : Nat) : Int) := by
  unfold ex exact NN
  rw [signed_up]
  by_cases c : signB ≤ a
  · rw [decide_eq_true c, if_pos c, if_pos rfl]
  · rw [decide_eq_false c, if_neg c, if_neg (by decide)]

end Go.Proofs.YtdkencepmdfacaaGreatDoor

namespace Go.Proofs.YtdkencepmdfacaaGreatDoor
open Go.RowKit Ieee

theorem word_f (x : Nat) : D.word false x = x := by
  unfold Format.word
  simp
theorem mul_taken {x y : Nat} (hx : x < infB) (hy : y < infB) : fmul x y = D.nearest false (takenM x * takenM y) (takenE x + takenE y) := by
  have h1 := read_num false hx
  have h2 := read_num false hy
  rw [word_f] at h1 h2
  unfold fmul Format.mul
  rw [h1, h2]
  simp only [Datum.product, Option.map_some, Option.getD_some]
  rfl

/-- the amount with its leading bit in place -/
def mant (r : Nat) : Nat := takenM r * 2 ^ (52 - (takenM r).log2)
theorem log52 {r : Nat} (h0 : r ≠ 0) : (takenM r).log2 ≤ 52 := by
  have h := (Nat.log2_lt (k := 53) (Nat.pos_iff_ne_zero.1 (takenM_pos h0))).2 (show takenM r < 2 ^ 53 from taken_lt)
  omega
theorem mant_range {r : Nat} (h0 : r ≠ 0) : 4503599627370496 ≤ mant r ∧ mant r < 9007199254740992 := by
  have hl := log52 h0
  have hp := Nat.pos_iff_ne_zero.1 (takenM_pos h0)
  have h1 := log_le (takenM r) hp
  have h2 : takenM r < 2 ^ ((takenM r).log2 + 1) := Nat.lt_log2_self
  unfold mant
  obtain ⟨m, hm⟩ : ∃ m, m = takenM r := ⟨_, rfl⟩
  rw [← hm] at hl h1 h2 ⊢
  obtain ⟨L, hL⟩ : ∃ L, L = m.log2 := ⟨_, rfl⟩
  rw [← hL] at hl h1 h2 ⊢
  have e1 : 2 ^ L * 2 ^ (52 - L) = 4503599627370496 := by
    rw [← Nat.pow_add, show L + (52 - L) = 52 by omega]
  have e2 : 2 ^ (L + 1) * 2 ^ (52 - L) = 9007199254740992 := by
    rw [← Nat.pow_add, show L + 1 + (52 - L) = 53 by omega]
  have h3 := Nat.mul_le_mul_right (2 ^ (52 - L)) h1
  have h4 := Nat.mul_lt_mul_of_pos_right h2 (show 0 < 2 ^ (52 - L) from Nat.pow_pos (by decide))
  omega
theorem mant_big {r : Nat} (h : 4503599627370496 ≤ r) : mant r = 4503599627370496 + r % 4503599627370496 ∧ (takenM r).log2 = 52 ∧ takenE r = ((r / 4503599627370496 : Nat) : Int) - 1075 ∧ takenM r = 4503599627370496 + r % 4503599627370496 := by
  have h0 : r ≠ 0 := by omega
  have e : takenM r = 4503599627370496 + r % 4503599627370496 := by
    unfold takenM
    rw [if_neg (by omega)]
  have hl : (takenM r).log2 = 52 := log2_is (by rw [e]; omega) (by rw [e]; omega)
  refine ⟨?_, hl, ?_, e⟩
  · unfold mant
    rw [hl, e, Nat.sub_self, Nat.pow_zero, Nat.mul_one]
  · unfold takenE
    rw [if_neg (by omega)]
theorem mant_small {r : Nat} (h : r < 4503599627370496) : takenM r = r ∧ takenE r = -1074 := by
  unfold takenM takenE
  rw [if_pos h, if_pos h]
  exact ⟨rfl, rfl⟩

/-- what normalize makes of an amount above 0 -/
def nrm (r : Nat) : Nat := if r < 4503599627370496 then r.log2 * 4503599627370496 + mant r else r
theorem nrm_mul {r : Nat} (h0 : r ≠ 0) (h : r < 4503599627370496) : fmul r 4841369599423283200 = nrm r := by
  obtain ⟨em, ee⟩ := mant_small h
  have hl := log52 h0
  have hmr := mant_range h0
  rw [em] at hl
  have hm : mant r = r * 2 ^ (52 - r.log2) := by
    unfold mant
    rw [em]
  have hL52 : r.log2 < 52 := (Nat.log2_lt h0).2 h
  rw [mul_taken (by unfold infB; omega) (by decide), em, ee, show takenM 4841369599423283200 = 2 ^ 52 by decide, show takenE 4841369599423283200 = 0 by decide]
  obtain ⟨R, hR⟩ : ∃ R, R = nrm r := ⟨_, rfl⟩
  have hRv : R = r.log2 * 4503599627370496 + mant r := by
    rw [hR]
    unfold nrm
    rw [if_pos h]
  have hRi : R < infB := by
    unfold infB
    omega
  obtain ⟨b1, b2, b3, b4⟩ := mant_big (r := R) (by omega)
  rw [← hR]
  refine Eq.trans ?_ ((nearest_taken false hRi).trans (word_f R))
  have e1 : r * 2 ^ 52 = takenM R * 2 ^ r.log2 := by
    rw [b4, show 4503599627370496 + R % 4503599627370496 = mant r by omega, hm, Nat.mul_assoc, ← Nat.pow_add, show 52 - r.log2 + r.log2 = 52 by omega]
  rw [e1]
  refine nearest_scale false ?_ ?_
  · rw [b4]
    omega
  · rw [b3]
    omega
theorem nrm_bits {r : Nat} (h0 : r ≠ 0) : nrm r % 4503599627370496 = mant r - 4503599627370496 ∧ ((nrm r / 4503599627370496 : Nat) : Int) + (if r < 4503599627370496 then -52 else 0) = takenE r + ((takenM r).log2 : Int) + 1 + 1022 ∧ (r < infB → nrm r < infB) ∧ 4503599627370496 ≤ nrm r := by
  have hmr := mant_range h0
  unfold nrm
  by_cases h : r < 4503599627370496
  · obtain ⟨em, ee⟩ := mant_small h
    have hL52 : r.log2 < 52 := (Nat.log2_lt h0).2 h
    rw [if_pos h, if_pos h, em, ee]
    unfold infB
    refine ⟨by omega, by omega, by omega, by omega⟩
  · obtain ⟨b1, b2, b3, b4⟩ := mant_big (r := r) (by omega)
    rw [if_neg h, if_neg h, b2, b3]
    refine ⟨by omega, by omega, fun h => h, by omega⟩

theorem mul_one {v : Nat} (h : v < infB) (h52 : 4503599627370496 ≤ v) : fmul 4607182418800017408 v = v := by
  rw [mul_taken (by decide) h, show takenM 4607182418800017408 = 2 ^ 52 by decide, show takenE 4607182418800017408 = -52 by decide]
  refine Eq.trans ?_ ((nearest_taken false h).trans (word_f v))
  rw [Nat.mul_comm]
  refine nearest_scale false (takenM_pos (by omega)) ?_
  omega

/-- what Ldexp answers, of a float with its leading bit in place -/
def ldx (r : Nat) (n : Int) : Nat := D.nearest false (takenM r) (takenE r + n)
theorem bitLen_53 {m : Nat} (h1 : 4503599627370496 ≤ m) (h2 : m < 9007199254740992) : bitLen m = 53 := by
  rw [bitLen_pos (by omega), log2_is (k := 52) h1 h2]
theorem ldexp_law {r : Nat} {n : Int} (h52 : 4503599627370496 ≤ r) (_ : r < infB) {X : Int} (hX : X = n + ((r / 4503599627370496 : Nat) : Int) - 1023) :
    ldx r n = if X < -1075 then 0 else if 1023 < X then infB else if X < -1022 then fmul 4368491638549381120 ((X + 1076).toNat * 4503599627370496 + r % 4503599627370496) else (X + 1023).toNat * 4503599627370496 + r % 4503599627370496 := by
  obtain ⟨b1, b2, b3, b4⟩ := mant_big h52
  unfold ldx
  have hM1 : 4503599627370496 ≤ takenM r := by omega
  have hM2 : takenM r < 9007199254740992 := taken_lt
  have hb := bitLen_53 hM1 hM2
  have h127 : takenM r < 2 ^ 127 := Nat.lt_trans hM2 (by decide)
  rw [b3, show ((r / 4503599627370496 : Nat) : Int) - 1075 + n = X - 52 by omega]
  by_cases c1 : X < -1075
  · rw [if_pos c1, ← rnd_nearest false (X - 52) (by omega) h127]
    unfold rnd rndR
    have hq : rndQ (takenM r) (X - 52) = -1074 := by
      unfold rndQ
      rw [hb, if_pos (by omega)]
    rw [hq, word_f]
    by_cases c2 : 127 < -1074 - (X - 52)
    · rw [if_pos c2]
    · rw [if_neg c2]
      simp only
      rw [if_neg (show ¬ -1074 - (X - 52) ≤ 0 by omega), if_neg (by omega)]
      obtain ⟨k, hk⟩ : ∃ k, k = (-1074 - (X - 52)).toNat := ⟨_, rfl⟩
      have hk54 : 54 ≤ k := by omega
      rw [← hk]
      have hlt : takenM r < 2 ^ (k - 1) := Nat.lt_of_lt_of_le hM2 (Nat.le_trans (by decide) (Nat.pow_le_pow_right (n := 2) (by decide) (show 53 ≤ k - 1 by omega)))
      have hlt2 : takenM r < 2 ^ k := Nat.lt_of_lt_of_le hlt (Nat.pow_le_pow_right (by decide) (by omega))
      have hz : rndM (takenM r) k false = 0 := by
        unfold rndM
        rw [Nat.div_eq_of_lt hlt2, Nat.mod_eq_of_lt hlt2, if_neg (by omega)]
      rw [hz]
      rfl
  rw [if_neg c1]
  by_cases c2 : 1023 < X
  · rw [if_pos c2, ← rnd_nearest false (X - 52) (by omega) h127]
    unfold rnd rndR
    have hq : rndQ (takenM r) (X - 52) = X - 52 := by
      unfold rndQ
      rw [hb, if_neg (by omega)]
      omega
    rw [hq, word_f, if_neg (by omega)]
    simp only
    rw [if_pos (by omega)]
  rw [if_neg c2]
  by_cases c3 : X < -1022
  · rw [if_pos c3]
    obtain ⟨v, hv⟩ : ∃ v, v = (X + 1076).toNat * 4503599627370496 + r % 4503599627370496 := ⟨_, rfl⟩
    rw [← hv]
    have hvi : v < infB := by
      unfold infB
      omega
    obtain ⟨d1, d2, d3, d4⟩ := mant_big (r := v) (by omega)
    rw [mul_taken (by decide) hvi, show takenM 4368491638549381120 = 2 ^ 52 by decide, show takenE 4368491638549381120 = -105 by decide, d3, d4, b4, Nat.mul_comm]
    refine (Eq.symm ?_)
    rw [show v % 4503599627370496 = r % 4503599627370496 by omega]
    refine nearest_scale false (by omega) ?_
    omega
  · rw [if_neg c3]
    obtain ⟨v, hv⟩ : ∃ v, v = (X + 1023).toNat * 4503599627370496 + r % 4503599627370496 := ⟨_, rfl⟩
    rw [← hv]
    have hvi : v < infB := by
      unfold infB
      omega
    obtain ⟨d1, d2, d3, d4⟩ := mant_big (r := v) (by omega)
    refine Eq.trans ?_ ((nearest_taken false hvi).trans (word_f v))
    rw [d3, d4, b4, show v % 4503599627370496 = r % 4503599627370496 by omega, show ((v / 4503599627370496 : Nat) : Int) - 1075 = X - 52 by omega]

/-- a whole amount with its leading bit in place, as a float, and back -/
theorem whole_float {M : Nat} (h1 : 4503599627370496 ≤ M) (h2 : M < 9007199254740992) : floatToIntVal .f64 (4836865999795912704 + M) .u64 = some (M : Int) := by
  obtain ⟨v, hv⟩ : ∃ v, v = 4836865999795912704 + M := ⟨_, rfl⟩
  rw [← hv]
  have hvi : v < infB := by
    unfold infB
    omega
  have hvs : v % signB = v := Nat.mod_eq_of_lt (by unfold signB; omega)
  obtain ⟨d1, d2, d3, d4⟩ := mant_big (r := v) (by omega)
  have hf : Fin_ v := ⟨by unfold signB; omega, by rw [hvs]; exact hvi⟩
  have hex : ex v = (M : Int) * (Un : Int) := by
    rw [ex_amount, if_neg (by unfold signB; omega), hvs]
    unfold NN
    obtain ⟨e, he, hU⟩ := Un_def
    rw [d4, d3, show 4503599627370496 + v % 4503599627370496 = M by omega, show (((v / 4503599627370496 : Nat) : Int) - 1075 + 1074).toNat = e by omega, hU, Int.natCast_mul]
  have ht := toInt_whole hf hex
  unfold floatToIntVal
  show (match (D.read v).toInt .zero with | some n => _ | none => _) = _
  rw [ht]
  simp only
  rw [if_pos]
  constructor
  · show (0 : Int) ≤ _
    omega
  · show (M : Int) ≤ 18446744073709551615
    omega

theorem odd_unique : ∀ (t u : Nat) {o p : Nat}, o * 2 ^ t = p * 2 ^ u → o % 2 = 1 → p % 2 = 1 → o = p ∧ t = u
  | 0, 0, o, p, h, _, _ => ⟨by simpa using h, rfl⟩
  | 0, u + 1, o, p, h, ho, _ => by
    rw [Nat.pow_zero, Nat.mul_one, Nat.pow_succ, ← Nat.mul_assoc] at h
    omega
  | t + 1, 0, o, p, h, _, hp => by
    rw [Nat.pow_zero, Nat.mul_one, Nat.pow_succ, ← Nat.mul_assoc] at h
    omega
  | t + 1, u + 1, o, p, h, ho, hp => by
    rw [Nat.pow_succ, Nat.pow_succ, ← Nat.mul_assoc, ← Nat.mul_assoc] at h
    obtain ⟨h1, h2⟩ := odd_unique t u (show o * 2 ^ t = p * 2 ^ u by omega) ho hp
    exact ⟨h1, by omega⟩

/-- an amount's odd part, and how often 2 divides it -/
theorem ctz_split {m : Nat} (h0 : m ≠ 0) (h : m < 18446744073709551616) : m = m / 2 ^ Lib.ctz 64 m * 2 ^ Lib.ctz 64 m ∧ m / 2 ^ Lib.ctz 64 m % 2 = 1 ∧ Lib.ctz 64 m < 64 := by
  obtain ⟨q, hq, hk⟩ := Lib.ctzFrom_spec 64 m (by omega) h
  have e : Lib.ctz 64 m = Lib.ctzFrom 64 m := by simp [Lib.ctz, h0]
  rw [e]
  have hd : m / 2 ^ Lib.ctzFrom 64 m = 2 * q + 1 := by
    obtain ⟨c, hc⟩ : ∃ c, c = Lib.ctzFrom 64 m := ⟨_, rfl⟩
    rw [← hc] at hq ⊢
    rw [hq, Nat.mul_div_cancel_left _ (Nat.pow_pos (by decide))]
  rw [hd]
  exact ⟨by rw [Nat.mul_comm]; exact hq, by omega, hk⟩
def oddM (r : Nat) : Nat := takenM r / 2 ^ Lib.ctz 64 (takenM r)
def oddE (r : Nat) : Int := takenE r + (Lib.ctz 64 (takenM r) : Int)
theorem odd_split {r : Nat} (h0 : r ≠ 0) : takenM r = oddM r * 2 ^ Lib.ctz 64 (takenM r) ∧ oddM r % 2 = 1 ∧ Lib.ctz 64 (takenM r) < 64 :=
  ctz_split (Nat.pos_iff_ne_zero.1 (takenM_pos h0)) (Nat.lt_trans taken_lt (by decide))
/-- the same, of the amount with its leading bit in place -/
theorem mant_odd {r : Nat} (h0 : r ≠ 0) : mant r / 2 ^ Lib.ctz 64 (mant r) = oddM r ∧ takenE r + ((takenM r).log2 : Int) + 1 - 53 + (Lib.ctz 64 (mant r) : Int) = oddE r ∧ Lib.ctz 64 (mant r) < 64 := by
  have hmr := mant_range h0
  obtain ⟨s1, s2, s3⟩ := ctz_split (m := mant r) (by omega) (by omega)
  obtain ⟨q1, q2, q3⟩ := odd_split h0
  have hl := log52 h0
  have he : mant r = oddM r * 2 ^ (Lib.ctz 64 (takenM r) + (52 - (takenM r).log2)) := by
    rw [Nat.pow_add, ← Nat.mul_assoc, ← q1]
    rfl
  obtain ⟨u1, u2⟩ := odd_unique _ _ (s1.symm.trans he) s2 q2
  refine ⟨u1, ?_, s3⟩
  unfold oddE
  rw [u2]
  omega

/-- the text of a number -/
def ftext (a : Nat) : List UInt8 :=
  if isN a then [110, 97, 110]
  else (if signB ≤ a then [45] else []) ++ (if a % signB = infB then [105, 110, 102] else if a % signB = 0 then [48] else Lib.decDigits (oddM (a % signB)) ++ 112 :: Lib.itoa (oddE (a % signB)))
end Go.Proofs.YtdkencepmdfacaaGreatDoor
