/- Floats, plain: no program in sight: what the operations of IEEE 754 keep. Floats, plain: how the document rounds is how IEEE 754 rounds. Floats, plain: the quotient. Floats, plain: floors, whole numbers, how two stand. Floats, plain: Less, Equal, Order, Min, Max. Floats, plain: rounding keeps the order. Floats, plain: a sum is its exact value, rounded. Floats, plain: near numbers' differences are exact (Sterbenz). Floats, plain: sums keep the order. Floats, plain: classes, the lesser and the greater. Floats, plain: exact values: floors, whole numbers, sums and products of whole ones. Floats, plain: Int, and the laws NumFloors and NumCounts. Floats, plain: powers of 2 are exact (NumScales). Floats, plain: sums and products keep the order (NumRises). Floats, plain: what a sum leaves out is at most half of its last bit (NumNearest). Floats: what the machine's operations give, the one NaN being told by 'fcan'. Floats, plain: bounds of words, and the answers of package num's functions. Floats, plain: what Int tells, by the odd part of the amount (NumWhole). Floats, plain: amounts with their leading bit in place; what Frexp and Ldexp tell; the text of a number. -/
import Derived.Laws.FloatArith
import Derived.Laws.Externs
import Derived.Laws.NewFold
import Derived.WalkLawsBesides
import Derived.Lib.ItoaNum
import Derived.Lib.TrailingZeros
set_option maxRecDepth 100000
namespace Go.Proofs.YtiidkgdlngcpgaaGreatDoor
open Ieee

/-- the format of float64 -/
abbrev D : Format := double
def nanB : Nat := 9221120237041090561
def signB : Nat := 9223372036854775808
def infB : Nat := 9218868437227405312

theorem D_sw : D.signWeight = 9223372036854775808 := by decide
theorem D_bin : D.binade = 4503599627370496 := by decide
theorem D_inf : D.infRung = 9218868437227405312 := by decide
theorem D_least : D.leastPlace = -1074 := by decide

/-- a word with the other sign -/
def flipW (a : Nat) : Nat := if a < signB then a + signB else a - signB

theorem flip_lt {a : Nat} (h : a < 2 * signB) : flipW a < 2 * signB := by
  unfold flipW signB at *
  split <;> omega
theorem flip_flip {a : Nat} (h : a < 2 * signB) : flipW (flipW a) = a := by
  unfold flipW signB at *
  split <;> split <;> omega

theorem word_flip (s : Bool) (r : Nat) (h : r < signB) : D.word (!s) r = flipW (D.word s r) := by
  unfold Format.word flipW
  rw [D_sw]
  unfold signB at *
  cases s
  · simp only [Bool.not_false, if_true, Bool.false_eq_true, if_false]
    rw [if_pos h]
    omega
  · simp only [Bool.not_true, if_true, Bool.false_eq_true, if_false]
    rw [if_neg (by omega)]
    omega

theorem nearest_rung (_ : Bool) (m : Nat) (e : Int) : ∃ r, r ≤ infB ∧ ∀ s', D.nearest s' m e = D.word s' r := by
  unfold Format.nearest
  by_cases hm : m = 0
  · exact ⟨0, by decide, fun s' => by rw [if_pos hm]⟩
  · refine ⟨min (((max (e + m.log2 - D.fractionBits) D.leastPlace) - D.leastPlace).toNat * D.binade + Toward.even.cut false (m <<< (e - max (e + m.log2 - D.fractionBits) D.leastPlace).toNat) (max (e + m.log2 - D.fractionBits) D.leastPlace - e).toNat) D.infRung, ?_, fun s' => by rw [if_neg hm]; rfl⟩
    rw [← show D.infRung = infB from D_inf]
    exact Nat.min_le_right _ _

theorem write_flip (d : Datum) : D.write d.opposite = flipW (D.write d) := by
  cases d with
  | number s m e =>
    obtain ⟨r, hr, h⟩ := nearest_rung s m e
    show D.nearest (!s) m e = flipW (D.nearest s m e)
    rw [h, h]
    exact word_flip s r (Nat.lt_of_le_of_lt hr (by decide))
  | infinity s =>
    show D.word (!s) D.infRung = flipW (D.word s D.infRung)
    exact word_flip s _ (by rw [D_inf]; decide)
  | nan s t =>
    show D.word (!s) (D.infRung + t % D.binade) = flipW (D.word s (D.infRung + t % D.binade))
    refine word_flip s _ ?_
    rw [D_inf, D_bin]
    unfold signB
    omega

/-- what a word stands for, by its sign and its rung -/
theorem read_word (s : Bool) (r : Nat) (hr : r < signB) : D.read (D.word s r) =
    if r < 4503599627370496 then .number s r (-1074)
    else if r < 9218868437227405312 then .number s (4503599627370496 + r % 4503599627370496) (-1074 + ((r / 4503599627370496 - 1 : Nat) : Int))
    else if r = 9218868437227405312 then .infinity s
    else .nan s (r - 9218868437227405312) := by
  have h1 : (D.word s r) % 9223372036854775808 = r := by
    unfold Format.word
    rw [D_sw]
    unfold signB at hr
    cases s <;> simp <;> omega
  have h2 : ((D.word s r) / 9223372036854775808 % 2 == 1) = s := by
    unfold Format.word
    rw [D_sw]
    unfold signB at hr
    cases s
    · simp
      omega
    · simp
      omega
  unfold Format.read
  simp only [D_sw, D_bin, D_inf, D_least, h1, h2]

theorem word_of {a : Nat} (h : a < 2 * signB) : a = D.word (decide (signB ≤ a)) (a % signB) ∧ a % signB < signB := by
  unfold Format.word
  rw [D_sw]
  unfold signB at *
  refine ⟨?_, Nat.mod_lt _ (by decide)⟩
  by_cases h2 : 9223372036854775808 ≤ a
  · simp [h2]
    omega
  · simp [h2]
    omega

theorem read_flip {a : Nat} (h : a < 2 * signB) : D.read (flipW a) = (D.read a).opposite := by
  obtain ⟨h1, h2⟩ := word_of h
  rw [h1, ← word_flip _ _ h2, read_word _ _ h2, read_word _ _ h2]
  split
  · rfl
  split
  · rfl
  split <;> rfl

theorem sum_comm (x y : Datum) : x.sum y = y.sum x := by
  cases x with
  | number s m i =>
    cases y with
    | number t n j =>
      simp only [Datum.sum]
      rw [Int.min_comm i j, Int.add_comm (signed s m _) _, Bool.and_comm s t]
    | infinity t => rfl
    | nan t f => rfl
  | infinity s =>
    cases y with
    | number t n j => rfl
    | infinity t =>
      simp only [Datum.sum]
      by_cases h : s = t
      · subst h
        rfl
      · rw [if_neg h, if_neg (fun e => h e.symm)]
    | nan t f => rfl
  | nan s f =>
    cases y with
    | number t n j => rfl
    | infinity t => rfl
    | nan t f' => rfl

theorem product_comm (x y : Datum) : x.product y = y.product x := by
  cases x with
  | number s m i =>
    cases y with
    | number t n j =>
      simp only [Datum.product]
      rw [Bool.xor_comm s t, Nat.mul_comm m n, Int.add_comm i j]
    | infinity t => rfl
    | nan t f => rfl
  | infinity s =>
    cases y with
    | number t n j => rfl
    | infinity t =>
      simp only [Datum.product]
      rw [Bool.xor_comm]
    | nan t f => rfl
  | nan s f =>
    cases y with
    | number t n j => rfl
    | infinity t => rfl
    | nan t f' => rfl

theorem signed_not (s : Bool) (m up : Nat) : signed (!s) m up = -signed s m up := by
  unfold signed
  cases s <;> simp

/-- a sum of opposites is the opposite, but where it is a zero -/
theorem sum_opposite (x y : Datum) : (x.opposite.sum y.opposite = (x.sum y).map Datum.opposite) ∨ ((∃ z e, x.sum y = some (.number z 0 e)) ∧ ∃ z e, x.opposite.sum y.opposite = some (.number z 0 e)) := by
  cases x with
  | number s m i =>
    cases y with
    | number t n j =>
      simp only [Datum.sum, Datum.opposite, signed_not]
      obtain ⟨A, hA⟩ : ∃ A, A = signed s m (i - min i j).toNat := ⟨_, rfl⟩
      obtain ⟨B, hB⟩ : ∃ B, B = signed t n (j - min i j).toNat := ⟨_, rfl⟩
      rw [← hA, ← hB]
      by_cases h0 : A + B = 0
      · right
        have h1 : -A + -B = 0 := by omega
        simp only [h0, h1, if_true, Int.natAbs_zero]
        exact ⟨⟨_, _, rfl⟩, ⟨_, _, rfl⟩⟩
      · left
        have h1 : ¬ (-A + -B = 0) := by omega
        simp only [h0, h1, if_false, Option.map_some, Datum.opposite]
        have h2 : (-A + -B).natAbs = (A + B).natAbs := by omega
        rw [h2]
        congr 2
        by_cases h3 : A + B < 0
        · have : ¬ (-A + -B < 0) := by omega
          simp [h3, this]
        · have : (-A + -B < 0) := by omega
          simp [h3, this]
    | infinity t => exact .inl rfl
    | nan t f => exact .inl rfl
  | infinity s =>
    cases y with
    | number t n j => exact .inl rfl
    | infinity t =>
      left
      simp only [Datum.sum, Datum.opposite]
      cases s <;> cases t <;> rfl
    | nan t f => exact .inl rfl
  | nan s f =>
    cases y with
    | number t n j => exact .inl rfl
    | infinity t => exact .inl rfl
    | nan t f' => exact .inl rfl

theorem opp_opp (x : Datum) : x.opposite.opposite = x := by cases x <;> simp [Datum.opposite]

theorem product_opposite (x y : Datum) : x.opposite.product y = (x.product y).map Datum.opposite := by
  cases x with
  | number s m i =>
    cases y with
    | number t n j => simp [Datum.product, Datum.opposite]
    | infinity t =>
      simp only [Datum.product, Datum.opposite]
      split <;> simp [Datum.opposite]
    | nan t f => rfl
  | infinity s =>
    cases y with
    | number t n j =>
      simp only [Datum.product, Datum.opposite]
      split <;> simp [Datum.opposite]
    | infinity t => simp [Datum.product, Datum.opposite]
    | nan t f => rfl
  | nan s f =>
    cases y with
    | number t n j => rfl
    | infinity t => rfl
    | nan t f' => rfl

theorem quotient_opposite (d : Nat) (x y : Datum) : x.opposite.quotient d y = (x.quotient d y).map Datum.opposite := by
  cases x with
  | number s m i =>
    cases y with
    | number t n j =>
      simp only [Datum.quotient, Datum.opposite]
      by_cases hn : n = 0
      · rw [if_pos hn, if_pos hn]
        by_cases hm : m = 0
        · rw [if_pos hm, if_pos hm]; rfl
        · rw [if_neg hm, if_neg hm]; simp [Datum.opposite]
      · rw [if_neg hn, if_neg hn]; simp [Datum.opposite]
    | infinity t => simp [Datum.quotient, Datum.opposite]
    | nan t f => rfl
  | infinity s =>
    cases y with
    | number t n j => simp [Datum.quotient, Datum.opposite]
    | infinity t => rfl
    | nan t f => rfl
  | nan s f =>
    cases y with
    | number t n j => rfl
    | infinity t => rfl
    | nan t f' => rfl

/-! ### The operations of package num, plain -/
def isN (a : Nat) : Bool := decide (infB < a % signB)
def fcan (a : Nat) : Nat := if isN a then nanB else a
def fneg (a : Nat) : Nat := if isN a then nanB else flipW a
def fabs (a : Nat) : Nat := if isN a then nanB else a % signB
def fadd (a b : Nat) : Nat := (D.add a b).getD nanB
def fsub (a b : Nat) : Nat := (D.sub a b).getD nanB
def fmul (a b : Nat) : Nat := (D.mul a b).getD nanB
def fdiv (a b : Nat) : Nat := (D.div a b).getD nanB

theorem isN_nan : isN nanB = true := by decide
theorem nanB_lt : nanB < 2 * signB := by decide
theorem word_mod (s : Bool) {r : Nat} (h : r < signB) : (D.word s r) % signB = r := by
  unfold Format.word
  rw [D_sw]
  unfold signB at *
  cases s
  · simp
    omega
  · simp
    omega
theorem word_lt2 (s : Bool) {r : Nat} (h : r < signB) : D.word s r < 2 * signB := by
  unfold Format.word
  rw [D_sw]
  unfold signB at *
  cases s
  · simp
    omega
  · simp
    omega

/-- what a word stands for is no NaN just if its rung is not above infinity's -/
theorem read_nan {a : Nat} (h : a < 2 * signB) : (D.read a).isNaN = isN a := by
  obtain ⟨h1, h2⟩ := word_of h
  rw [h1, read_word _ _ h2]
  unfold isN
  rw [word_mod _ h2]
  unfold infB
  split
  · simp [Datum.isNaN]
    omega
  split
  · simp [Datum.isNaN]
    omega
  split
  · rename_i e
    rw [e]
    simp [Datum.isNaN]
  · simp [Datum.isNaN]
    omega

/-- a datum that an operation answers: no NaN -/
theorem write_ok {d : Datum} (h : d.isNaN = false) : isN (D.write d) = false ∧ D.write d < 2 * signB := by
  cases d with
  | number s m e =>
    obtain ⟨r, hr, hw⟩ := nearest_rung s m e
    have hr2 : r < signB := Nat.lt_of_le_of_lt hr (by decide)
    show isN (D.nearest s m e) = false ∧ D.nearest s m e < 2 * signB
    rw [hw]
    refine ⟨?_, word_lt2 s hr2⟩
    unfold isN
    rw [word_mod s hr2]
    exact decide_eq_false (by omega)
  | infinity s =>
    show isN (D.word s D.infRung) = false ∧ D.word s D.infRung < 2 * signB
    rw [D_inf]
    have hr2 : 9218868437227405312 < signB := by decide
    refine ⟨?_, word_lt2 s hr2⟩
    unfold isN
    rw [word_mod s hr2]
    exact decide_eq_false (by unfold infB; omega)
  | nan s t => simp [Datum.isNaN] at h

theorem sum_ok {x y d : Datum} (h : x.sum y = some d) : d.isNaN = false := by
  cases x <;> cases y <;> simp only [Datum.sum] at h
  all_goals first
    | (injection h with h; subst h; rfl)
    | (split at h <;> first | (injection h with h; subst h; rfl) | cases h)
    | cases h
theorem product_ok {x y d : Datum} (h : x.product y = some d) : d.isNaN = false := by
  cases x <;> cases y <;> simp only [Datum.product] at h
  all_goals first
    | (injection h with h; subst h; rfl)
    | (split at h <;> first | (injection h with h; subst h; rfl) | cases h)
    | cases h
theorem quotient_ok {x y d : Datum} {n : Nat} (h : x.quotient n y = some d) : d.isNaN = false := by
  cases x <;> cases y <;> simp only [Datum.quotient] at h
  all_goals first
    | (injection h with h; subst h; rfl)
    | (split at h <;> first | (injection h with h; subst h; rfl) | (split at h <;> first | (injection h with h; subst h; rfl) | cases h) | cases h)
    | cases h

theorem neg_write {d : Datum} (h : d.isNaN = false) : fneg (D.write d) = D.write d.opposite := by
  unfold fneg
  rw [(write_ok h).1, write_flip, if_neg (by decide)]
theorem neg_nan : fneg nanB = nanB := by decide

theorem fadd_comm (a b : Nat) : fadd a b = fadd b a := by
  unfold fadd Format.add
  rw [sum_comm]
theorem fmul_comm (a b : Nat) : fmul a b = fmul b a := by
  unfold fmul Format.mul
  rw [product_comm]

theorem zero_write (z : Bool) (e : Int) : D.write (.number z 0 e) % signB = 0 := by
  show D.nearest z 0 e % signB = 0
  unfold Format.nearest
  rw [if_pos rfl, word_mod z (by decide)]

/-- NumTurns' third -/
theorem fsub_turn (a b : Nat) : fsub a b % signB = 0 ∨ fsub b a = fneg (fsub a b) := by
  unfold fsub Format.sub
  generalize D.read a = x
  generalize D.read b = y
  have e : y.sum x.opposite = x.opposite.sum y.opposite.opposite := by rw [opp_opp, sum_comm]
  rw [e]
  rcases sum_opposite x y.opposite with h | ⟨⟨z, p, h⟩, _⟩
  · right
    rw [h]
    cases hs : x.sum y.opposite with
    | none => simp [neg_nan]
    | some d => simp [neg_write (sum_ok hs)]
  · left
    rw [h]
    simp [zero_write]

/-- a word that is a NaN stands for one -/
theorem read_isN {a : Nat} (h : a < 2 * signB) (hn : isN a = true) : ∃ s f, D.read a = .nan s f := by
  have := read_nan h
  rw [hn] at this
  cases hr : D.read a with
  | number s m e => rw [hr] at this; simp [Datum.isNaN] at this
  | infinity s => rw [hr] at this; simp [Datum.isNaN] at this
  | nan s f => exact ⟨s, f, rfl⟩

theorem sum_nan_l {s : Bool} {f : Nat} (y : Datum) : (Datum.nan s f).sum y = none := by cases y <;> rfl
theorem sum_nan_r {s : Bool} {f : Nat} (x : Datum) : x.sum (Datum.nan s f) = none := by cases x <;> rfl
theorem product_nan_l {s : Bool} {f : Nat} (y : Datum) : (Datum.nan s f).product y = none := by cases y <;> rfl
theorem product_nan_r {s : Bool} {f : Nat} (x : Datum) : x.product (Datum.nan s f) = none := by cases x <;> rfl
theorem quotient_nan_l {s : Bool} {f n : Nat} (y : Datum) : (Datum.nan s f).quotient n y = none := by cases y <;> rfl
theorem quotient_nan_r {s : Bool} {f n : Nat} (x : Datum) : x.quotient n (Datum.nan s f) = none := by cases x <;> rfl

/-- a function of two data that a NaN makes none -/
theorem can_two {F : Datum → Datum → Option Datum} (hl : ∀ s f y, F (.nan s f) y = none) (hr : ∀ s f x, F x (.nan s f) = none) {a b : Nat} (ha : a < 2 * signB) (hb : b < 2 * signB) : F (D.read (fcan a)) (D.read (fcan b)) = F (D.read a) (D.read b) := by
  obtain ⟨s0, f0, h0⟩ := read_isN nanB_lt isN_nan
  unfold fcan
  by_cases h1 : isN a = true
  · obtain ⟨s, f, h⟩ := read_isN ha h1
    rw [if_pos h1, h0, h, hl, hl]
  · rw [if_neg h1]
    by_cases h2 : isN b = true
    · obtain ⟨s, f, h⟩ := read_isN hb h2
      rw [if_pos h2, h0, h, hr, hr]
    · rw [if_neg h2]

theorem fadd_can {a b : Nat} (ha : a < 2 * signB) (hb : b < 2 * signB) : fadd (fcan a) (fcan b) = fadd a b := by
  unfold fadd Format.add
  rw [can_two (F := Datum.sum) (fun _ _ y => sum_nan_l y) (fun _ _ x => sum_nan_r x) ha hb]
theorem fsub_can {a b : Nat} (ha : a < 2 * signB) (hb : b < 2 * signB) : fsub (fcan a) (fcan b) = fsub a b := by
  unfold fsub Format.sub
  rw [can_two (F := fun x y => Datum.sum x y.opposite) (fun _ _ y => sum_nan_l _) (fun _ _ x => sum_nan_r x) ha hb]
theorem fmul_can {a b : Nat} (ha : a < 2 * signB) (hb : b < 2 * signB) : fmul (fcan a) (fcan b) = fmul a b := by
  unfold fmul Format.mul
  rw [can_two (F := Datum.product) (fun _ _ y => product_nan_l y) (fun _ _ x => product_nan_r x) ha hb]
theorem fdiv_can {a b : Nat} (ha : a < 2 * signB) (hb : b < 2 * signB) : fdiv (fcan a) (fcan b) = fdiv a b := by
  unfold fdiv Format.div
  rw [can_two (F := fun x y => Datum.quotient (D.fractionBits + 2) x y) (fun _ _ y => quotient_nan_l y) (fun _ _ x => quotient_nan_r x) ha hb]

theorem isN_flip {a : Nat} (h : a < 2 * signB) : isN (flipW a) = isN a := by
  unfold isN flipW
  congr 2
  unfold signB at *
  split <;> omega

/-- what is told is one NaN, or none -/
theorem one_nan {o : Option Datum} (h : ∀ d, o = some d → d.isNaN = false) : fcan ((o.map D.write).getD nanB) = (o.map D.write).getD nanB ∧ (o.map D.write).getD nanB < 2 * signB := by
  cases o with
  | none => exact ⟨by decide, nanB_lt⟩
  | some d =>
    have := write_ok (h d rfl)
    refine ⟨?_, this.2⟩
    show fcan (D.write d) = D.write d
    unfold fcan
    rw [this.1]
    rfl

theorem fneg_neg {a : Nat} (h : a < 2 * signB) : fneg (fneg a) = fcan a := by
  unfold fneg fcan
  by_cases h1 : isN a = true
  · rw [if_pos h1, if_pos h1, if_pos isN_nan]
  · rw [if_neg h1, if_neg h1, if_neg (by rw [isN_flip h]; exact h1), flip_flip h]
theorem fabs_neg {a : Nat} (h : a < 2 * signB) : fabs (fneg a) = fabs a := by
  unfold fneg fabs
  by_cases h1 : isN a = true
  · rw [if_pos h1, if_pos h1, if_pos isN_nan]
  · rw [if_neg h1, if_neg h1, if_neg (by rw [isN_flip h]; exact h1)]
    unfold flipW signB at *
    split <;> omega
theorem isN_mod (a : Nat) : isN (a % signB) = isN a := by
  unfold isN
  rw [Nat.mod_mod]
theorem fabs_abs (a : Nat) : fabs (fabs a) = fabs a := by
  unfold fabs
  by_cases h1 : isN a = true
  · rw [if_pos h1, if_pos isN_nan]
  · rw [if_neg h1, if_neg (by rw [isN_mod]; exact h1), Nat.mod_mod]

/-- the read of what Neg tells: the opposite, or a NaN -/
theorem read_neg {a : Nat} (h : a < 2 * signB) : (∃ s f s' f', D.read a = .nan s f ∧ D.read (fneg a) = .nan s' f') ∨ D.read (fneg a) = (D.read a).opposite := by
  by_cases h1 : isN a = true
  · left
    obtain ⟨s, f, h2⟩ := read_isN h h1
    obtain ⟨s', f', h3⟩ := read_isN nanB_lt isN_nan
    refine ⟨s, f, s', f', h2, ?_⟩
    unfold fneg
    rw [if_pos h1]
    exact h3
  · right
    unfold fneg
    rw [if_neg h1]
    exact read_flip h

theorem fmul_neg {a b : Nat} (ha : a < 2 * signB) : fmul (fneg a) b = fneg (fmul a b) := by
  unfold fmul Format.mul
  rcases read_neg ha with ⟨s, f, s', f', h1, h2⟩ | h
  · rw [h1, h2, product_nan_l, product_nan_l]
    exact neg_nan.symm
  · rw [h, product_opposite]
    cases hs : (D.read a).product (D.read b) with
    | none => exact neg_nan.symm
    | some d => simp [neg_write (product_ok hs)]
theorem fdiv_neg {a b : Nat} (ha : a < 2 * signB) : fdiv (fneg a) b = fneg (fdiv a b) := by
  unfold fdiv Format.div
  rcases read_neg ha with ⟨s, f, s', f', h1, h2⟩ | h
  · rw [h1, h2, quotient_nan_l, quotient_nan_l]
    exact neg_nan.symm
  · rw [h, quotient_opposite]
    cases hs : (D.read a).quotient (D.fractionBits + 2) (D.read b) with
    | none => exact neg_nan.symm
    | some d => simp [neg_write (quotient_ok hs)]
theorem fmul_lt (a b : Nat) : fmul a b < 2 * signB ∧ fcan (fmul a b) = fmul a b := by
  have := one_nan (o := (D.read a).product (D.read b)) (fun d h => product_ok h)
  exact ⟨this.2, this.1⟩
theorem fadd_lt (a b : Nat) : fadd a b < 2 * signB ∧ fcan (fadd a b) = fadd a b := by
  have := one_nan (o := (D.read a).sum (D.read b)) (fun d h => sum_ok h)
  exact ⟨this.2, this.1⟩
theorem fsub_lt (a b : Nat) : fsub a b < 2 * signB ∧ fcan (fsub a b) = fsub a b := by
  have := one_nan (o := (D.read a).sum (D.read b).opposite) (fun d h => sum_ok h)
  exact ⟨this.2, this.1⟩
theorem fdiv_lt (a b : Nat) : fdiv a b < 2 * signB ∧ fcan (fdiv a b) = fdiv a b := by
  have := one_nan (o := (D.read a).quotient (D.fractionBits + 2) (D.read b)) (fun d h => quotient_ok h)
  exact ⟨this.2, this.1⟩
theorem fmul_negs {a b : Nat} (ha : a < 2 * signB) (hb : b < 2 * signB) : fmul (fneg a) (fneg b) = fmul a b := by
  rw [fmul_neg ha, fmul_comm a, fmul_neg hb, fneg_neg (fmul_lt _ _).1, (fmul_lt _ _).2, fmul_comm]

/-- NumSigns' sum -/
theorem fadd_negs {a b : Nat} (ha : a < 2 * signB) (hb : b < 2 * signB) : fadd (fneg a) (fneg b) = fneg (fadd a b) ∨ fadd a b % signB = 0 := by
  unfold fadd Format.add
  rcases read_neg ha with ⟨s, f, s', f', h1, h2⟩ | h
  · left
    rw [h1, h2, sum_nan_l, sum_nan_l]
    exact neg_nan.symm
  rcases read_neg hb with ⟨s, f, s', f', h1, h2⟩ | h'
  · left
    rw [h1, h2, sum_nan_r, sum_nan_r]
    exact neg_nan.symm
  rw [h, h']
  rcases sum_opposite (D.read a) (D.read b) with e | ⟨⟨z, p, e⟩, _⟩
  · left
    rw [e]
    cases hs : (D.read a).sum (D.read b) with
    | none => exact neg_nan.symm
    | some d => simp [neg_write (sum_ok hs)]
  · right
    rw [e]
    simp [zero_write]
end Go.Proofs.YtiidkgdlngcpgaaGreatDoor

namespace Go.Proofs.YtiidkgdlngcpgaaGreatDoor
open Ieee

/-- how many bits a number has -/
def bitLen (n : Nat) : Nat := if n = 0 then 0 else n.log2 + 1

/-- what the document tells of w 2^e, and something less than 2^e more, if there is a rest -/
def rndQ (w : Nat) (e : Int) : Int := if e + (bitLen w : Int) - 53 < -1074 then -1074 else e + (bitLen w : Int) - 53
def rndM (w n : Nat) (rest : Bool) : Nat := w / 2 ^ n + (if 2 ^ (n - 1) < w % 2 ^ n ∨ (w % 2 ^ n = 2 ^ (n - 1) ∧ (rest = true ∨ w / 2 ^ n % 2 = 1)) then 1 else 0)
def rndR (w : Nat) (e : Int) (rest : Bool) : Nat :=
  if 127 < rndQ w e - e then 0
  else
    let m := if rndQ w e - e ≤ 0 then w * 2 ^ (e - rndQ w e).toNat else rndM w (rndQ w e - e).toNat rest
    if 971 < rndQ w e then infB else if infB ≤ (rndQ w e + 1074).toNat * 4503599627370496 + m then infB else (rndQ w e + 1074).toNat * 4503599627370496 + m
def rnd (s : Bool) (w : Nat) (e : Int) (rest : Bool) : Nat := D.word s (rndR w e rest)

theorem cut_even (s : Bool) (n drop : Nat) : Toward.even.cut s n drop = n / 2 ^ min drop (n.log2 + 2) + (if 2 ^ min drop (n.log2 + 2) < 2 * (n % 2 ^ min drop (n.log2 + 2)) ∨ (2 ^ min drop (n.log2 + 2) = 2 * (n % 2 ^ min drop (n.log2 + 2)) ∧ n / 2 ^ min drop (n.log2 + 2) % 2 = 1) then 1 else 0) := by
  unfold Toward.cut
  simp only [Nat.one_shiftLeft]
  congr 1
  split
  · rename_i h
    rcases h with h | ⟨h1, h2⟩
    · simp [h]
    · rw [← h1]
      simp [h2]
  · rename_i h
    rw [not_or, not_and] at h
    obtain ⟨h1, h2⟩ := h
    have e1 : decide (2 ^ min drop (n.log2 + 2) < 2 * (n % 2 ^ min drop (n.log2 + 2))) = false := decide_eq_false h1
    rw [e1]
    by_cases h3 : 2 ^ min drop (n.log2 + 2) = 2 * (n % 2 ^ min drop (n.log2 + 2))
    · have := h2 h3
      have e2 : (n / 2 ^ min drop (n.log2 + 2) % 2 == 1) = false := by rw [beq_eq_false_iff_ne]; exact this
      simp [e2]
    · have e3 : (2 ^ min drop (n.log2 + 2) == 2 * (n % 2 ^ min drop (n.log2 + 2))) = false := by rw [beq_eq_false_iff_ne]; exact h3
      simp [e3]

theorem pow_split {n : Nat} (h : 0 < n) : 2 ^ n = 2 * 2 ^ (n - 1) := by
  obtain ⟨k, rfl⟩ : ∃ k, n = k + 1 := ⟨n - 1, by omega⟩
  rw [Nat.pow_succ, Nat.add_sub_cancel, Nat.mul_comm]

/-- the cut is the document's, without a rest -/
theorem cut_rnd (s : Bool) {w n : Nat} (hn : 0 < n) : Toward.even.cut s w n = rndM w n false := by
  rw [cut_even]
  unfold rndM
  have hlog := Nat.lt_log2_self (n := w)
  by_cases h : n ≤ w.log2 + 2
  · rw [Nat.min_eq_left h, pow_split hn]
    congr 1
    have e1 : (2 * 2 ^ (n - 1) < 2 * (w % (2 * 2 ^ (n - 1))) ∨ 2 * 2 ^ (n - 1) = 2 * (w % (2 * 2 ^ (n - 1))) ∧ w / (2 * 2 ^ (n - 1)) % 2 = 1) ↔ (2 ^ (n - 1) < w % (2 * 2 ^ (n - 1)) ∨ (w % (2 * 2 ^ (n - 1)) = 2 ^ (n - 1) ∧ (false = true ∨ w / (2 * 2 ^ (n - 1)) % 2 = 1))) := by
      constructor
      · rintro (h | ⟨h1, h2⟩)
        · left; omega
        · right; exact ⟨by omega, .inr h2⟩
      · rintro (h | ⟨h1, h2 | h2⟩)
        · left; omega
        · cases h2
        · right; exact ⟨by omega, h2⟩
    by_cases h2 : (2 ^ (n - 1) < w % (2 * 2 ^ (n - 1)) ∨ (w % (2 * 2 ^ (n - 1)) = 2 ^ (n - 1) ∧ (false = true ∨ w / (2 * 2 ^ (n - 1)) % 2 = 1)))
    · rw [if_pos h2, if_pos (e1.2 h2)]
    · rw [if_neg h2, if_neg (fun h => h2 (e1.1 h))]
  · have hle : w.log2 + 2 ≤ n - 1 := by omega
    have hp : 2 ^ (w.log2 + 2) ≤ 2 ^ (n - 1) := Nat.pow_le_pow_right (by decide) hle
    have hp2 : 2 ^ (n - 1) ≤ 2 ^ n := Nat.pow_le_pow_right (by decide) (by omega)
    have h4 : 2 ^ (w.log2 + 2) = 2 * 2 ^ (w.log2 + 1) := by rw [Nat.pow_succ, Nat.mul_comm]
    have h3 : w < 2 ^ (w.log2 + 1) := hlog
    have hw2 : w < 2 ^ n := by omega
    have hw3 : w < 2 ^ (w.log2 + 2) := by omega
    rw [Nat.min_eq_right (by omega), Nat.div_eq_of_lt hw3, Nat.mod_eq_of_lt hw3, Nat.div_eq_of_lt hw2, Nat.mod_eq_of_lt hw2]
    rw [if_neg (by omega), if_neg (by omega)]

theorem cut_zero (s : Bool) (n : Nat) : Toward.even.cut s n 0 = n := by
  rw [cut_even, Nat.min_eq_left (by omega), Nat.pow_zero, Nat.div_one, Nat.mod_one]
  simp

theorem bitLen_pos {w : Nat} (h : w ≠ 0) : bitLen w = w.log2 + 1 := if_neg h

theorem log_le (w : Nat) (h : w ≠ 0) : 2 ^ w.log2 ≤ w := Nat.log2_self_le h

/-- how the document rounds, where nothing is left over -/
theorem rnd_nearest (s : Bool) {w : Nat} (e : Int) (hw : w ≠ 0) (hb : w < 2 ^ 127) : rnd s w e false = D.nearest s w e := by
  have hbl := bitLen_pos hw
  have hl : w.log2 < 127 := (Nat.log2_lt hw).2 hb
  have hlast : max (e + (w.log2 : Int) - (D.fractionBits : Int)) D.leastPlace = rndQ w e := by
    unfold rndQ
    rw [hbl, D_least, show (D.fractionBits : Int) = 52 from rfl]
    split
    · rw [Int.max_eq_right (by omega)]
    · rw [Int.max_eq_left (by omega)]
      omega
  unfold rnd Format.nearest
  rw [if_neg hw]
  simp only [hlast]
  simp only [D_least, D_bin, D_inf]
  congr 1
  have hq : -1074 ≤ rndQ w e := by
    unfold rndQ
    split <;> omega
  unfold rndR
  rw [Int.sub_neg]
  by_cases h1 : rndQ w e - e ≤ 0
  · rw [if_neg (by omega), if_pos h1]
    rw [show (rndQ w e - e).toNat = 0 by omega, cut_zero, Nat.shiftLeft_eq]
    by_cases h2 : 971 < rndQ w e
    · rw [if_pos h2]
      have hge : 4503599627370496 ≤ w * 2 ^ (e - rndQ w e).toNat := by
        have hk : (e - rndQ w e).toNat = 52 - w.log2 := by
          unfold rndQ at h2 ⊢
          rw [hbl] at h2 ⊢
          split
          · rename_i h3
            rw [if_pos h3] at h2
            omega
          · omega
        have hl52 : w.log2 ≤ 52 := by
          unfold rndQ at h1 h2
          rw [hbl] at h1 h2
          split at h1
          · rename_i h3
            rw [if_pos h3] at h2
            omega
          · omega
        rw [hk]
        calc 4503599627370496 = 2 ^ w.log2 * 2 ^ (52 - w.log2) := by rw [← Nat.pow_add, show w.log2 + (52 - w.log2) = 52 by omega]
          _ ≤ w * 2 ^ (52 - w.log2) := Nat.mul_le_mul_right _ (log_le w hw)
      have : 9218868437227405312 ≤ (rndQ w e + 1074).toNat * 4503599627370496 + w * 2 ^ (e - rndQ w e).toNat := by omega
      rw [Nat.min_eq_right this]
      rfl
    · rw [if_neg h2]
      unfold infB
      split
      · rename_i h3
        rw [Nat.min_eq_right h3]
      · rename_i h3
        rw [Nat.min_eq_left (by omega)]
  · rw [if_neg h1]
    rw [show (e - rndQ w e).toNat = 0 by omega, Nat.shiftLeft_zero, cut_rnd s (by omega)]
    by_cases h0 : 127 < rndQ w e - e
    · rw [if_pos h0]
      have hqq : rndQ w e = -1074 := by
        unfold rndQ at h0 ⊢
        rw [hbl] at h0 ⊢
        split
        · rfl
        · rename_i h3
          rw [if_neg h3] at h0
          omega
      have hm : rndM w (rndQ w e - e).toNat false = 0 := by
        obtain ⟨n, hn⟩ : ∃ n, n = (rndQ w e - e).toNat := ⟨_, rfl⟩
        have hn127 : 127 ≤ n - 1 := by omega
        rw [← hn]
        unfold rndM
        have hp : 2 ^ 127 ≤ 2 ^ (n - 1) := Nat.pow_le_pow_right (by decide) hn127
        have hp2 : 2 ^ (n - 1) ≤ 2 ^ n := Nat.pow_le_pow_right (by decide) (by omega)
        rw [Nat.div_eq_of_lt (by omega), Nat.mod_eq_of_lt (by omega), if_neg (by omega)]
      rw [hm, hqq]
      rfl
    · rw [if_neg h0]
      by_cases h2 : 971 < rndQ w e
      · rw [if_pos h2]
        have hk : (rndQ w e - e).toNat = w.log2 - 52 := by
          unfold rndQ at h2 ⊢
          rw [hbl] at h2 ⊢
          split
          · rename_i h3
            rw [if_pos h3] at h2
            omega
          · omega
        have hl52 : 52 ≤ w.log2 := by omega
        have hge : 4503599627370496 ≤ rndM w (rndQ w e - e).toNat false := by
          rw [hk]
          unfold rndM
          have : 4503599627370496 ≤ w / 2 ^ (w.log2 - 52) := by
            rw [Nat.le_div_iff_mul_le (Nat.two_pow_pos _)]
            calc 4503599627370496 * 2 ^ (w.log2 - 52) = 2 ^ w.log2 := by rw [show (4503599627370496 : Nat) = 2 ^ 52 by decide, ← Nat.pow_add, show 52 + (w.log2 - 52) = w.log2 by omega]
              _ ≤ w := log_le w hw
          omega
        have : 9218868437227405312 ≤ (rndQ w e + 1074).toNat * 4503599627370496 + rndM w (rndQ w e - e).toNat false := by omega
        rw [Nat.min_eq_right this]
        rfl
      · rw [if_neg h2]
        unfold infB
        split
        · rename_i h3
          rw [Nat.min_eq_right h3]
        · rename_i h3
          rw [Nat.min_eq_left (by omega)]

/-! ### The sum -/
/-- an amount, as the document takes it -/
def takenM (r : Nat) : Nat := if r < 4503599627370496 then r else 4503599627370496 + r % 4503599627370496
def takenE (r : Nat) : Int := if r < 4503599627370496 then -1074 else (r / 4503599627370496 : Nat) - 1075

theorem read_num (s : Bool) {r : Nat} (h : r < infB) : D.read (D.word s r) = .number s (takenM r) (takenE r) := by
  rw [read_word s r (Nat.lt_trans h (by decide))]
  unfold takenM takenE
  unfold infB at h
  split
  · rfl
  · rename_i h2
    congr 1
    omega

theorem taken_lt {r : Nat} : takenM r < 9007199254740992 := by
  unfold takenM
  split <;> omega
theorem takenE_ge (r : Nat) : -1074 ≤ takenE r := by
  unfold takenE
  split <;> omega
theorem takenE_le {r : Nat} (h : r < infB) : takenE r ≤ 971 := by
  unfold infB at h
  unfold takenE
  split <;> omega
/-- the amount of a rung back -/
theorem taken_back (r : Nat) : (takenE r + 1074).toNat * 4503599627370496 + takenM r = r := by
  unfold takenE takenM
  split
  · omega
  · omega

/-- a number that the format has is its own nearest -/
theorem nearest_taken (s : Bool) {r : Nat} (h : r < infB) : D.nearest s (takenM r) (takenE r) = D.word s r := by
  by_cases h0 : takenM r = 0
  · have hr : r = 0 := by
      unfold takenM at h0
      split at h0
      · exact h0
      · omega
    subst hr
    unfold Format.nearest
    rw [if_pos h0]
  · rw [← rnd_nearest s (takenE r) h0 (Nat.lt_trans taken_lt (by decide))]
    unfold rnd
    congr 1
    have hbl : bitLen (takenM r) ≤ 53 := by
      rw [bitLen_pos h0]
      have : (takenM r).log2 < 53 := (Nat.log2_lt h0).2 taken_lt
      omega
    have hq : rndQ (takenM r) (takenE r) = takenE r := by
      unfold rndQ
      by_cases hs : r < 4503599627370496
      · have he : takenE r = -1074 := if_pos hs
        have h3 : takenM r = r := if_pos hs
        have h2 : bitLen (takenM r) ≤ 52 := by
          rw [bitLen_pos h0]
          have : (takenM r).log2 < 52 := (Nat.log2_lt h0).2 (by rw [h3]; exact hs)
          omega
        rw [he, if_pos (by omega)]
      · have h3 : takenM r = 4503599627370496 + r % 4503599627370496 := if_neg hs
        have h2 : bitLen (takenM r) = 53 := by
          have : 52 ≤ (takenM r).log2 := (Nat.le_log2 h0).2 (by rw [h3]; omega)
          rw [bitLen_pos h0] at hbl ⊢
          omega
        have := takenE_ge r
        rw [h2, if_neg (by omega)]
        omega
    unfold rndR
    have hle := takenE_le h
    rw [hq, if_neg (show ¬ 127 < takenE r - takenE r by omega), if_pos (show takenE r - takenE r ≤ 0 by omega), Int.sub_self, Int.toNat_zero, Nat.pow_zero, Nat.mul_one]
    simp only []
    rw [if_neg (show ¬ 971 < takenE r by omega), taken_back, if_neg (by omega)]

theorem log2_is {w k : Nat} (h1 : 2 ^ k ≤ w) (h2 : w < 2 ^ (k + 1)) : w.log2 = k := by
  have h0 : w ≠ 0 := by have := Nat.two_pow_pos k; omega
  have a := (Nat.le_log2 h0).2 h1
  have b := (Nat.log2_lt h0).2 h2
  omega

theorem nearest_drop (s : Bool) {w : Nat} {f last : Int} {drop q r : Nat} (hw : w ≠ 0) (hl : f + (w.log2 : Int) - 52 = last) (hge : -1074 ≤ last) (hd : last - f = (drop : Int)) (hdl : drop ≤ w.log2 + 2) (hq : w / 2 ^ drop = q) (hr : w % 2 ^ drop = r) (hne : 2 ^ drop ≠ 2 * r) :
    D.nearest s w f = D.word s (min ((last + 1074).toNat * 4503599627370496 + (q + if 2 ^ drop < 2 * r then 1 else 0)) infB) := by
  unfold Format.nearest
  have hlast : max (f + (w.log2 : Int) - (D.fractionBits : Int)) D.leastPlace = last := by
    rw [D_least, show (D.fractionBits : Int) = 52 from rfl, hl, Int.max_eq_left hge]
  rw [if_neg hw]
  simp only [hlast]
  simp only [D_least, D_bin, D_inf]
  rw [show (f - last).toNat = 0 by omega, Nat.shiftLeft_zero, show (last - f).toNat = drop by omega, cut_even, Nat.min_eq_left hdl, hq, hr, Int.sub_neg]
  congr 3
  congr 1
  by_cases h : 2 ^ drop < 2 * r
  · rw [if_pos h, if_pos (.inl h)]
  · rw [if_neg h, if_neg (by
      rintro (h2 | h2)
      · exact h h2
      · exact hne h2.1)]

/-- far less than half of the last bit: nothing -/
theorem far_plus (s : Bool) {x m n d : Nat} {e f : Int} (hx : x < infB) (hm : m = takenM x) (he : e = takenE x) (h52 : 4503599627370496 ≤ m) (hn : n < 9007199254740992) (hn0 : 0 < n) (hd : e - f = (d : Int)) (hd65 : 65 ≤ d) :
    D.nearest s (m * 2 ^ d + n) f = D.word s x := by
  have hm53 : m < 9007199254740992 := hm ▸ taken_lt
  have hback := taken_back x
  rw [← hm, ← he] at hback
  have hge := takenE_ge x
  rw [← he] at hge
  have hp : 36893488147419103232 ≤ 2 ^ d := by
    calc 36893488147419103232 = 2 ^ 65 := by decide
      _ ≤ 2 ^ d := Nat.pow_le_pow_right (by decide) hd65
  have e52 : 2 ^ (52 + d) = 4503599627370496 * 2 ^ d := by rw [Nat.pow_add]
  have e53 : 2 ^ (52 + d + 1) = 9007199254740992 * 2 ^ d := by rw [Nat.pow_succ, e52]; omega
  have hlog : (m * 2 ^ d + n).log2 = 52 + d := by
    refine log2_is ?_ ?_
    · rw [e52]
      have := Nat.mul_le_mul_right (2 ^ d) h52
      omega
    · rw [e53]
      have : (m + 1) * 2 ^ d ≤ 9007199254740992 * 2 ^ d := Nat.mul_le_mul_right _ (by omega)
      rw [Nat.add_mul] at this
      omega
  rw [nearest_drop s (w := m * 2 ^ d + n) (last := e) (drop := d) (q := m) (r := n) (by omega) (by rw [hlog]; omega) hge hd (by rw [hlog]; omega) (by
      rw [Nat.mul_comm, Nat.mul_add_div (by omega), Nat.div_eq_of_lt (by omega), Nat.add_zero]) (by
      rw [Nat.mul_comm, Nat.mul_add_mod, Nat.mod_eq_of_lt (by omega)]) (by omega)]
  rw [if_neg (by omega), Nat.add_zero, hback, Nat.min_eq_left (by omega)]

theorem far_minus (s : Bool) {x m n d : Nat} {e f : Int} (hx : x < infB) (hm : m = takenM x) (he : e = takenE x) (h52 : 4503599627370496 ≤ m) (hn : n < 9007199254740992) (hn0 : 0 < n) (hd : e - f = (d : Int)) (hd65 : 65 ≤ d) (hf : -1074 ≤ f) :
    D.nearest s (m * 2 ^ d - n) f = D.word s x := by
  have hm53 : m < 9007199254740992 := hm ▸ taken_lt
  have hback := taken_back x
  rw [← hm, ← he] at hback
  have hge := takenE_ge x
  rw [← he] at hge
  have hp : 36893488147419103232 ≤ 2 ^ d := by
    calc 36893488147419103232 = 2 ^ 65 := by decide
      _ ≤ 2 ^ d := Nat.pow_le_pow_right (by decide) hd65
  have hp1 : 2 ^ d = 2 * 2 ^ (d - 1) := pow_split (by omega)
  have e52 : 2 ^ (52 + d) = 4503599627370496 * 2 ^ d := by rw [Nat.pow_add]
  have e53 : 2 ^ (52 + d + 1) = 9007199254740992 * 2 ^ d := by rw [Nat.pow_succ, e52]; omega
  have hU := Nat.mul_le_mul_right (2 ^ d) h52
  have hU2 := Nat.mul_le_mul_right (2 ^ d) (Nat.le_of_lt hm53)
  by_cases hm2 : m = 4503599627370496
  · subst hm2
    have e51 : 2 ^ (51 + d) = 2251799813685248 * 2 ^ d := by rw [Nat.pow_add]
    have hlog : (4503599627370496 * 2 ^ d - n).log2 = 51 + d := by
      refine log2_is ?_ ?_
      · rw [e51]
        omega
      · rw [show 51 + d + 1 = 52 + d by omega, e52]
        omega
    have hW : 4503599627370496 * 2 ^ d - n = 2 ^ (d - 1) * 9007199254740991 + (2 ^ (d - 1) - n) := by omega
    rw [nearest_drop s (w := 4503599627370496 * 2 ^ d - n) (last := e - 1) (drop := d - 1) (q := 9007199254740991) (r := 2 ^ (d - 1) - n) (by omega) (by rw [hlog]; omega) (by omega) (by omega) (by rw [hlog]; omega) (by
        rw [hW, Nat.mul_add_div (by omega), Nat.div_eq_of_lt (by omega)]) (by
        rw [hW, Nat.mul_add_mod, Nat.mod_eq_of_lt (by omega)]) (by omega)]
    rw [if_pos (by omega)]
    have : (e - 1 + 1074).toNat * 4503599627370496 + (9007199254740991 + 1) = x := by
      have h2 : (e + 1074).toNat = (e - 1 + 1074).toNat + 1 := by omega
      have h3 : 1 * 4503599627370496 + 4503599627370496 = 9007199254740991 + 1 := rfl
      rw [h2, Nat.add_mul, Nat.add_assoc, h3] at hback
      exact hback
    rw [this, Nat.min_eq_left (by omega)]
  · have hm3 : (4503599627370496 + 1) * 2 ^ d ≤ m * 2 ^ d := Nat.mul_le_mul_right _ (by omega)
    rw [Nat.add_mul] at hm3
    have hlog : (m * 2 ^ d - n).log2 = 52 + d := by
      refine log2_is ?_ ?_
      · rw [e52]
        omega
      · rw [e53]
        omega
    have hW : m * 2 ^ d - n = 2 ^ d * (m - 1) + (2 ^ d - n) := by
      obtain ⟨k, rfl⟩ : ∃ k, m = k + 1 := ⟨m - 1, by omega⟩
      rw [Nat.add_mul, Nat.add_sub_cancel, Nat.mul_comm k, Nat.one_mul]
      omega
    rw [nearest_drop s (w := m * 2 ^ d - n) (last := e) (drop := d) (q := m - 1) (r := 2 ^ d - n) (by omega) (by rw [hlog]; omega) hge hd (by rw [hlog]; omega) (by
        rw [hW, Nat.mul_add_div (by omega), Nat.div_eq_of_lt (by omega), Nat.add_zero]) (by
        rw [hW, Nat.mul_add_mod, Nat.mod_eq_of_lt (by omega)]) (by omega)]
    rw [if_pos (by omega), show m - 1 + 1 = m by omega, hback, Nat.min_eq_left (by omega)]

theorem takenE_mono {x y : Nat} (h : y ≤ x) : takenE y ≤ takenE x := by
  unfold takenE
  split <;> split <;> omega

/-- amounts: the greater rung is the greater amount, at the lesser one's place -/
theorem taken_mono {x y d : Nat} (h : y < x) (hd : takenE x - takenE y = (d : Int)) : takenM y < takenM x * 2 ^ d := by
  by_cases hd0 : d = 0
  · subst hd0
    have b1 := taken_back x
    have b2 := taken_back y
    have he : takenE x = takenE y := by omega
    rw [he] at b1
    rw [Nat.pow_zero, Nat.mul_one]
    omega
  · have hx : ¬ x < 4503599627370496 := by
      intro hx
      have e1 : takenE x = -1074 := if_pos hx
      have := takenE_ge y
      omega
    have hm : takenM x = 4503599627370496 + x % 4503599627370496 := if_neg hx
    have hy : takenM y < 9007199254740992 := taken_lt
    have hp : 2 ≤ 2 ^ d := by
      calc 2 = 2 ^ 1 := rfl
        _ ≤ 2 ^ d := Nat.pow_le_pow_right (by decide) (by omega)
    have : 4503599627370496 * 2 ≤ takenM x * 2 ^ d := Nat.mul_le_mul (by omega) hp
    omega

theorem takenM_pos {x : Nat} (h : x ≠ 0) : 0 < takenM x := by
  unfold takenM
  split <;> omega

theorem sum_bound {x y d : Nat} (hd : d ≤ 64) : takenM x * 2 ^ d + takenM y < 2 ^ 127 := by
  have h1 : takenM x < 9007199254740992 := taken_lt
  have h2 : takenM y < 9007199254740992 := taken_lt
  have h3 : 2 ^ d ≤ 2 ^ 64 := Nat.pow_le_pow_right (by decide) hd
  have h4 : takenM x * 2 ^ d ≤ 9007199254740992 * 2 ^ 64 := Nat.mul_le_mul (by omega) h3
  have h5 : 9007199254740992 * 2 ^ 64 + 9007199254740992 < 2 ^ 127 := by decide
  omega

theorem signed_zero (s : Bool) (m : Nat) : signed s m 0 = if s then -(m : Int) else m := by
  unfold signed
  rw [Nat.shiftLeft_zero]
theorem signed_up (s : Bool) (m d : Nat) : signed s m d = if s then -((m * 2 ^ d : Nat) : Int) else ((m * 2 ^ d : Nat) : Int) := by
  unfold signed
  rw [Nat.shiftLeft_eq]

/-- the document's sum of two amounts above 0, the first of which is not the lesser one -/
def sum2 (s t : Bool) (x y : Nat) : Nat :=
  if 64 < takenE x - takenE y then D.word s x
  else if s = t then rnd s (takenM x * 2 ^ (takenE x - takenE y).toNat + takenM y) (takenE y) false
  else if x = y then 0
  else rnd s (takenM x * 2 ^ (takenE x - takenE y).toNat - takenM y) (takenE y) false

theorem write_total (T f : Int) (s t : Bool) : D.write (.number (if T = 0 then s && t else decide (T < 0)) T.natAbs f) = if T = 0 then D.word (s && t) 0 else D.nearest (decide (T < 0)) T.natAbs f := by
  by_cases h : T = 0
  · subst h
    simp only [if_true, Int.natAbs_zero]
    show D.nearest _ 0 _ = _
    unfold Format.nearest
    rw [if_pos rfl]
  · rw [if_neg h, if_neg h]
    rfl

theorem add_sum2 (s t : Bool) {x y : Nat} (hx : x < infB) (hy : y < infB) (hy0 : y ≠ 0) (hxy : y ≤ x) : fadd (D.word s x) (D.word t y) = sum2 s t x y := by
  have hx0 : x ≠ 0 := by omega
  have hmono := takenE_mono hxy
  obtain ⟨d, hd⟩ : ∃ d : Nat, takenE x - takenE y = (d : Int) := ⟨(takenE x - takenE y).toNat, by omega⟩
  have hmin : min (takenE x) (takenE y) = takenE y := Int.min_eq_right hmono
  have hmx := takenM_pos hx0
  have hmy := takenM_pos hy0
  have hpd := Nat.two_pow_pos d
  have hU : 0 < takenM x * 2 ^ d := Nat.mul_pos hmx hpd
  unfold fadd Format.add
  rw [read_num s hx, read_num t hy]
  simp only [Datum.sum, hmin, Int.sub_self, Option.map_some, Option.getD_some]
  rw [hd]
  simp only [Int.toNat_natCast, Int.toNat_zero]
  refine (write_total (signed s (takenM x) d + signed t (takenM y) 0) (takenE y) s t).trans ?_
  generalize hT : signed s (takenM x) d + signed t (takenM y) 0 = T
  rw [signed_zero, signed_up] at hT
  unfold sum2
  rw [hd]
  simp only [Int.toNat_natCast]
  have hfar : 64 < (d : Int) → 4503599627370496 ≤ takenM x := by
    intro h
    have hx2 : ¬ x < 4503599627370496 := by
      intro hx2
      have e1 : takenE x = -1074 := if_pos hx2
      have := takenE_ge y
      omega
    have hm : takenM x = 4503599627370496 + x % 4503599627370496 := if_neg hx2
    omega
  by_cases hst : s = t
  · subst hst
    have h1 : T ≠ 0 ∧ T.natAbs = takenM x * 2 ^ d + takenM y ∧ decide (T < 0) = s := by
      cases s
      · simp only [Bool.false_eq_true, if_false] at hT
        exact ⟨by omega, by omega, decide_eq_false (by omega)⟩
      · simp only [if_true] at hT
        exact ⟨by omega, by omega, decide_eq_true (by omega)⟩
    rw [if_neg h1.1, h1.2.1, h1.2.2, if_pos rfl]
    by_cases hf : 64 < (d : Int)
    · rw [if_pos hf]
      exact far_plus s hx rfl rfl (hfar hf) taken_lt hmy hd (by omega)
    · rw [if_neg hf]
      exact (rnd_nearest s _ (by omega) (sum_bound (by omega))).symm
  · rw [if_neg hst]
    by_cases hxy2 : x = y
    · subst hxy2
      have hd0 : d = 0 := by omega
      subst hd0
      rw [Nat.pow_zero, Nat.mul_one] at hT
      have h0 : T = 0 := by
        cases s
        · cases t
          · exact absurd rfl hst
          · simp only [Bool.false_eq_true, if_false, if_true] at hT
            omega
        · cases t
          · simp only [Bool.false_eq_true, if_false, if_true] at hT
            omega
          · exact absurd rfl hst
      rw [if_pos h0, if_neg (show ¬ (64 < ((0 : Nat) : Int)) by omega), if_pos rfl]
      cases s <;> cases t <;> simp at hst ⊢ <;> rfl
    · have hgt := taken_mono (by omega : y < x) hd
      rw [if_neg hxy2]
      have h1 : T ≠ 0 ∧ T.natAbs = takenM x * 2 ^ d - takenM y ∧ decide (T < 0) = s := by
        cases s
        · cases t
          · exact absurd rfl hst
          · simp only [Bool.false_eq_true, if_false, if_true] at hT
            exact ⟨by omega, by omega, decide_eq_false (by omega)⟩
        · cases t
          · simp only [Bool.false_eq_true, if_false, if_true] at hT
            exact ⟨by omega, by omega, decide_eq_true (by omega)⟩
          · exact absurd rfl hst
      rw [if_neg h1.1, h1.2.1, h1.2.2]
      by_cases hf : 64 < (d : Int)
      · rw [if_pos hf]
        exact far_minus s hx rfl rfl (hfar hf) taken_lt hmy hd (by omega) (takenE_ge y)
      · rw [if_neg hf]
        have hb := sum_bound (x := x) (y := y) (d := d) (by omega)
        exact (rnd_nearest s _ (by omega) (by omega)).symm

theorem log2_scale {m : Nat} (d : Nat) (hm : 0 < m) : (m * 2 ^ d).log2 = m.log2 + d := by
  refine log2_is ?_ ?_
  · rw [Nat.pow_add]
    exact Nat.mul_le_mul_right _ (log_le m (by omega))
  · rw [show m.log2 + d + 1 = (m.log2 + 1) + d by omega, Nat.pow_add]
    exact Nat.mul_lt_mul_of_pos_right Nat.lt_log2_self (Nat.two_pow_pos d)

theorem cut_scale (s : Bool) {m : Nat} (d k : Nat) (hm : 0 < m) : Toward.even.cut s (m * 2 ^ d) (k + d) = Toward.even.cut s m k := by
  rw [cut_even, cut_even, log2_scale d hm, show min (k + d) (m.log2 + d + 2) = min k (m.log2 + 2) + d by omega]
  generalize min k (m.log2 + 2) = g
  have hp := Nat.two_pow_pos d
  have e1 : m * 2 ^ d / 2 ^ (g + d) = m / 2 ^ g := by rw [Nat.pow_add, Nat.mul_div_mul_right _ _ hp]
  have e2 : m * 2 ^ d % 2 ^ (g + d) = m % 2 ^ g * 2 ^ d := by rw [Nat.pow_add, Nat.mul_mod_mul_right]
  rw [e1, e2, Nat.pow_add]
  congr 1
  have h1 : (2 ^ g * 2 ^ d < 2 * (m % 2 ^ g * 2 ^ d)) ↔ (2 ^ g < 2 * (m % 2 ^ g)) := by
    rw [← Nat.mul_assoc]
    exact Nat.mul_lt_mul_right hp
  have h2 : (2 ^ g * 2 ^ d = 2 * (m % 2 ^ g * 2 ^ d)) ↔ (2 ^ g = 2 * (m % 2 ^ g)) := by
    rw [← Nat.mul_assoc]
    exact Nat.mul_left_inj (by omega)
  simp only [h1, h2]

/-- a number may be written at a lesser place -/
theorem nearest_scale (s : Bool) {m d : Nat} {e f : Int} (hm : 0 < m) (hd : e - f = (d : Int)) : D.nearest s (m * 2 ^ d) f = D.nearest s m e := by
  have hp := Nat.two_pow_pos d
  have hmd : m * 2 ^ d ≠ 0 := by have := Nat.mul_pos hm hp; omega
  unfold Format.nearest
  rw [if_neg hmd, if_neg (by omega), log2_scale d hm]
  have hl : f + ((m.log2 + d : Nat) : Int) - (D.fractionBits : Int) = e + (m.log2 : Int) - (D.fractionBits : Int) := by omega
  simp only [hl]
  generalize max (e + (m.log2 : Int) - (D.fractionBits : Int)) D.leastPlace = last
  have key : Toward.even.cut s ((m * 2 ^ d) <<< (f - last).toNat) (last - f).toNat = Toward.even.cut s (m <<< (e - last).toNat) (last - e).toNat := by
    by_cases h1 : last ≤ f
    · rw [show (last - f).toNat = 0 by omega, show (last - e).toNat = 0 by omega, cut_zero, cut_zero, Nat.shiftLeft_eq, Nat.shiftLeft_eq, Nat.mul_assoc, ← Nat.pow_add]
      congr 2
      omega
    · by_cases h2 : last ≤ e
      · rw [show (f - last).toNat = 0 by omega, Nat.shiftLeft_zero, show (last - e).toNat = 0 by omega, cut_zero, Nat.shiftLeft_eq]
        have hk : d = (e - last).toNat + (last - f).toNat := by omega
        have h3 : m * 2 ^ d = m * 2 ^ (e - last).toNat * 2 ^ (last - f).toNat := by
          conv => lhs; rw [hk]
          rw [Nat.pow_add, Nat.mul_assoc]
        have h4 := cut_scale s (last - f).toNat 0 (Nat.mul_pos hm (Nat.two_pow_pos (e - last).toNat))
        rw [Nat.zero_add, cut_zero] at h4
        rw [h3]
        exact h4
      · rw [show (f - last).toNat = 0 by omega, show (e - last).toNat = 0 by omega, Nat.shiftLeft_zero, Nat.shiftLeft_zero, show (last - f).toNat = (last - e).toNat + d by omega]
        exact cut_scale s d _ hm
  rw [key]

/-- the document's sum -/
def rAdd (a b : Nat) : Nat :=
  if infB < a % signB ∨ infB < b % signB ∨ (a % signB = infB ∧ b % signB = infB ∧ a ≠ b) then nanB
  else if a % signB = infB then a
  else if b % signB = infB then b
  else if a % signB = 0 ∧ b % signB = 0 then (if signB ≤ a ∧ signB ≤ b then signB else 0)
  else if a % signB = 0 then b
  else if b % signB = 0 then a
  else if a % signB < b % signB then sum2 (decide (signB ≤ b)) (decide (signB ≤ a)) (b % signB) (a % signB)
  else sum2 (decide (signB ≤ a)) (decide (signB ≤ b)) (a % signB) (b % signB)

theorem read_inf (s : Bool) : D.read (D.word s infB) = .infinity s := by
  rw [read_word s infB (by decide)]
  rw [if_neg (by decide), if_neg (by decide), if_pos (by decide)]
theorem read_zero (s : Bool) : D.read (D.word s 0) = .number s 0 (-1074) := by
  rw [read_word s 0 (by decide), if_pos (by decide)]

theorem sum_zero_l (s t : Bool) {y : Nat} (hy : y < infB) (hy0 : y ≠ 0) : fadd (D.word s 0) (D.word t y) = D.word t y := by
  unfold fadd Format.add
  rw [read_zero, read_num t hy]
  have hmin : min (-1074) (takenE y) = -1074 := Int.min_eq_left (takenE_ge y)
  obtain ⟨d, hd⟩ : ∃ d : Nat, takenE y - -1074 = (d : Int) := ⟨(takenE y - -1074).toNat, by have := takenE_ge y; omega⟩
  simp only [Datum.sum, hmin, Option.map_some, Option.getD_some, Int.sub_self, hd]
  simp only [Int.toNat_natCast, Int.toNat_zero]
  refine (write_total (signed s 0 0 + signed t (takenM y) d) (-1074) s t).trans ?_
  generalize hT : signed s 0 0 + signed t (takenM y) d = T
  rw [signed_zero, signed_up] at hT
  have hm := takenM_pos hy0
  have hU : 0 < takenM y * 2 ^ d := Nat.mul_pos hm (Nat.two_pow_pos d)
  have h1 : T ≠ 0 ∧ T.natAbs = takenM y * 2 ^ d ∧ decide (T < 0) = t := by
    cases t
    · cases s
      · simp only [Bool.false_eq_true, if_false] at hT
        exact ⟨by omega, by omega, decide_eq_false (by omega)⟩
      · simp only [Bool.false_eq_true, if_false, if_true] at hT
        exact ⟨by omega, by omega, decide_eq_false (by omega)⟩
    · cases s
      · simp only [Bool.false_eq_true, if_false, if_true] at hT
        exact ⟨by omega, by omega, decide_eq_true (by omega)⟩
      · simp only [if_true] at hT
        exact ⟨by omega, by omega, decide_eq_true (by omega)⟩
  rw [if_neg h1.1, h1.2.1, h1.2.2, nearest_scale t hm hd, nearest_taken t hy]

theorem sum_zeros (s t : Bool) : fadd (D.word s 0) (D.word t 0) = D.word (s && t) 0 := by
  unfold fadd Format.add
  rw [read_zero, read_zero]
  cases s <;> cases t <;> rfl

theorem sum2_same (s : Bool) (x : Nat) (t : Bool) (y : Nat) (h : x = y) : sum2 s t x y = sum2 t s y x := by
  subst h
  unfold sum2
  by_cases hst : s = t
  · subst hst
    rfl
  · rw [if_neg (show ¬ (64 < takenE x - takenE x) by omega), if_neg hst, if_pos rfl, if_neg (show ¬ (64 < takenE x - takenE x) by omega), if_neg (fun e => hst e.symm), if_pos rfl]

/-- the document's sum is the sum -/
theorem fadd_eq {a b : Nat} (ha : a < 2 * signB) (hb : b < 2 * signB) : fadd a b = rAdd a b := by
  unfold rAdd
  by_cases hn : infB < a % signB ∨ infB < b % signB
  · rw [if_pos (by
      rcases hn with h | h
      · exact .inl h
      · exact .inr (.inl h))]
    unfold fadd Format.add
    rcases hn with h | h
    · obtain ⟨s, f, hr⟩ := read_isN ha (decide_eq_true h)
      rw [hr, sum_nan_l]
      rfl
    · obtain ⟨s, f, hr⟩ := read_isN hb (decide_eq_true h)
      rw [hr, sum_nan_r]
      rfl
  obtain ⟨wa, la⟩ := word_of ha
  obtain ⟨wb, lb⟩ := word_of hb
  obtain ⟨s, hs⟩ : ∃ s, s = decide (signB ≤ a) := ⟨_, rfl⟩
  obtain ⟨t, ht⟩ : ∃ t, t = decide (signB ≤ b) := ⟨_, rfl⟩
  obtain ⟨x, hx⟩ : ∃ x, x = a % signB := ⟨_, rfl⟩
  obtain ⟨y, hy⟩ : ∃ y, y = b % signB := ⟨_, rfl⟩
  rw [← hs, ← hx] at wa
  rw [← ht, ← hy] at wb
  rw [← hx] at la
  rw [← hy] at lb
  rw [← hx, ← hy] at hn
  rw [← hx, ← hy, ← hs, ← ht]
  by_cases hxi : x = infB
  · by_cases hyi : y = infB
    · by_cases hab : a = b
      · rw [if_neg (by omega), if_pos hxi]
        have hst : s = t := by rw [hs, ht, hab]
        rw [wa, wb, hxi, hyi, hst]
        unfold fadd Format.add
        rw [read_inf]
        simp only [Datum.sum, if_true]
        rfl
      · rw [if_pos (.inr (.inr ⟨hxi, hyi, hab⟩))]
        have hst : s ≠ t := by
          intro h
          exact hab (by rw [wa, wb, hxi, hyi, h])
        rw [wa, wb, hxi, hyi]
        unfold fadd Format.add
        rw [read_inf, read_inf]
        simp only [Datum.sum, if_neg hst]
        rfl
    · rw [if_neg (by omega), if_pos hxi]
      rw [wa, wb, hxi]
      unfold fadd Format.add
      rw [read_inf, read_num t (by omega)]
      rfl
  · by_cases hyi : y = infB
    · rw [if_neg (by omega), if_neg hxi, if_pos hyi]
      rw [wa, wb, hyi]
      unfold fadd Format.add
      rw [read_inf, read_num s (by omega)]
      rfl
    · rw [if_neg (by omega), if_neg hxi, if_neg hyi]
      by_cases hx0 : x = 0
      · by_cases hy0 : y = 0
        · rw [if_pos ⟨hx0, hy0⟩]
          have h1 : (signB ≤ a ∧ signB ≤ b) ↔ ((s && t) = true) := by
            rw [hs, ht]
            simp
          have h2 : fadd a b = D.word (s && t) 0 := by rw [wa, wb, hx0, hy0, sum_zeros]
          rw [h2]
          by_cases h3 : (s && t) = true
          · rw [if_pos (h1.2 h3), h3]
            decide
          · rw [if_neg (fun h => h3 (h1.1 h))]
            rw [Bool.not_eq_true] at h3
            rw [h3]
            rfl
        · rw [if_neg (by omega), if_pos hx0]
          rw [wa, wb, hx0, sum_zero_l s t (by omega) hy0]
      · by_cases hy0 : y = 0
        · rw [if_neg (by omega), if_neg hx0, if_pos hy0]
          rw [fadd_comm, wa, wb, hy0, sum_zero_l t s (by omega) hx0]
        · rw [if_neg (by omega), if_neg hx0, if_neg hy0]
          by_cases hlt : x < y
          · rw [if_pos hlt]
            rw [fadd_comm, wa, wb, add_sum2 t s (by omega) (by omega) hx0 (by omega)]
          · rw [if_neg hlt]
            rw [wa, wb, add_sum2 s t (by omega) (by omega) hy0 (by omega)]

/-! ### The difference, the product -/
theorem fsub_eq {a b : Nat} (hb : b < 2 * signB) : fsub a b = fadd a (fneg b) := by
  unfold fsub fadd Format.sub Format.add
  rcases read_neg hb with ⟨s, f, s', f', h1, h2⟩ | h
  · rw [h1, h2, sum_nan_r]
    rw [show (Datum.nan s f).opposite = Datum.nan (!s) f from rfl, sum_nan_r]
  · rw [h]

/-- the document's product -/
def rMul (a b : Nat) : Nat :=
  if infB < a % signB ∨ infB < b % signB ∨ (a % signB = infB ∧ b % signB = 0) ∨ (a % signB = 0 ∧ b % signB = infB) then nanB
  else if a % signB = infB ∨ b % signB = infB then D.word (decide (signB ≤ a) ^^ decide (signB ≤ b)) infB
  else if a % signB = 0 ∨ b % signB = 0 then D.word (decide (signB ≤ a) ^^ decide (signB ≤ b)) 0
  else rnd (decide (signB ≤ a) ^^ decide (signB ≤ b)) (takenM (a % signB) * takenM (b % signB)) (takenE (a % signB) + takenE (b % signB)) false

theorem takenM_zero (x : Nat) : takenM x = 0 ↔ x = 0 := by
  constructor
  · intro h
    by_cases hx : x = 0
    · exact hx
    · have := takenM_pos hx
      omega
  · rintro rfl
    rfl

theorem nearest_none (s : Bool) (e : Int) : D.nearest s 0 e = D.word s 0 := by
  unfold Format.nearest
  rw [if_pos rfl]

theorem fmul_eq {a b : Nat} (ha : a < 2 * signB) (hb : b < 2 * signB) : fmul a b = rMul a b := by
  unfold rMul
  by_cases hn : infB < a % signB ∨ infB < b % signB
  · rw [if_pos (by
      rcases hn with h | h
      · exact .inl h
      · exact .inr (.inl h))]
    unfold fmul Format.mul
    rcases hn with h | h
    · obtain ⟨s, f, hr⟩ := read_isN ha (decide_eq_true h)
      rw [hr, product_nan_l]
      rfl
    · obtain ⟨s, f, hr⟩ := read_isN hb (decide_eq_true h)
      rw [hr, product_nan_r]
      rfl
  obtain ⟨wa, la⟩ := word_of ha
  obtain ⟨wb, lb⟩ := word_of hb
  obtain ⟨s, hs⟩ : ∃ s, s = decide (signB ≤ a) := ⟨_, rfl⟩
  obtain ⟨t, ht⟩ : ∃ t, t = decide (signB ≤ b) := ⟨_, rfl⟩
  obtain ⟨x, hx⟩ : ∃ x, x = a % signB := ⟨_, rfl⟩
  obtain ⟨y, hy⟩ : ∃ y, y = b % signB := ⟨_, rfl⟩
  rw [← hs, ← hx] at wa
  rw [← ht, ← hy] at wb
  rw [← hx] at la
  rw [← hy] at lb
  rw [← hx, ← hy] at hn
  rw [← hx, ← hy, ← hs, ← ht]
  rw [show fmul a b = fmul (D.word s x) (D.word t y) by rw [← wa, ← wb]]
  unfold fmul Format.mul
  by_cases hxi : x = infB
  · by_cases hyi : y = infB
    · have hy0 : y ≠ 0 := by rw [hyi]; decide
      have hx0 : x ≠ 0 := by rw [hxi]; decide
      rw [if_neg (by omega), if_pos (.inl hxi), hxi, hyi, read_inf, read_inf]
      rfl
    · rw [hxi, read_inf, read_num t (by omega)]
      by_cases hy0 : y = 0
      · rw [if_pos (.inr (.inr (.inl ⟨rfl, hy0⟩)))]
        simp only [Datum.product, if_pos ((takenM_zero y).2 hy0)]
        rfl
      · rw [if_neg (by
          have : infB ≠ 0 := by decide
          omega), if_pos (.inl rfl)]
        simp only [Datum.product, if_neg (fun h => hy0 ((takenM_zero y).1 h))]
        rfl
  · by_cases hyi : y = infB
    · rw [hyi, read_inf, read_num s (by omega)]
      by_cases hx0 : x = 0
      · rw [if_pos (.inr (.inr (.inr ⟨hx0, rfl⟩)))]
        simp only [Datum.product, if_pos ((takenM_zero x).2 hx0)]
        rfl
      · rw [if_neg (by
          have : infB ≠ 0 := by decide
          omega), if_pos (.inr rfl)]
        simp only [Datum.product, if_neg (fun h => hx0 ((takenM_zero x).1 h))]
        rw [Bool.xor_comm s t]
        rfl
    · rw [if_neg (by omega), if_neg (by omega), read_num s (by omega), read_num t (by omega)]
      simp only [Datum.product, Option.map_some, Option.getD_some]
      show D.nearest _ _ _ = _
      by_cases h0 : x = 0 ∨ y = 0
      · rw [if_pos h0]
        have : takenM x * takenM y = 0 := by
          rcases h0 with h | h
          · rw [(takenM_zero x).2 h, Nat.zero_mul]
          · rw [(takenM_zero y).2 h, Nat.mul_zero]
        rw [this, nearest_none]
      · rw [if_neg h0]
        have h1 : 0 < takenM x * takenM y := Nat.mul_pos (takenM_pos (by omega)) (takenM_pos (by omega))
        have h2 : takenM x * takenM y < 2 ^ 127 := by
          have a1 : takenM x < 9007199254740992 := taken_lt
          have a2 : takenM y < 9007199254740992 := taken_lt
          have a3 : takenM x * takenM y ≤ 9007199254740992 * 9007199254740992 := Nat.mul_le_mul (by omega) (by omega)
          have a4 : 9007199254740992 * 9007199254740992 < 2 ^ 127 := by decide
          omega
        exact (rnd_nearest _ _ (by omega) h2).symm
end Go.Proofs.YtiidkgdlngcpgaaGreatDoor

namespace Go.Proofs.YtiidkgdlngcpgaaGreatDoor
open Ieee

/-- nothing that lies strictly between two far digits makes a difference -/
theorem nearest_sticky (s : Bool) {A : Nat} {e : Int} (hA : 2 ^ 53 ≤ A) (u : Nat) (h1 : 1 ≤ u) (h3 : u ≤ 3) : D.nearest s (4 * A + u) e = D.nearest s (4 * A + 2) e := by
  have key : ∀ u : Nat, 1 ≤ u → u ≤ 3 → D.nearest s (4 * A + u) e = D.word s (min (((max (e + ((A.log2 + 2 : Nat) : Int) - 52) (-1074)) + 1074).toNat * 4503599627370496 + (if (max (e + ((A.log2 + 2 : Nat) : Int) - 52) (-1074) - e).toNat ≤ A.log2 + 4 then A / 2 ^ ((max (e + ((A.log2 + 2 : Nat) : Int) - 52) (-1074) - e).toNat - 2) + (if 2 ^ ((max (e + ((A.log2 + 2 : Nat) : Int) - 52) (-1074) - e).toNat - 3) ≤ A % 2 ^ ((max (e + ((A.log2 + 2 : Nat) : Int) - 52) (-1074) - e).toNat - 2) then 1 else 0) else 0)) infB) := by
    intro u h1 h3
    have hA0 : A ≠ 0 := by have := Nat.two_pow_pos 53; omega
    have hl53 : 53 ≤ A.log2 := (Nat.le_log2 hA0).2 hA
    have hlog : (4 * A + u).log2 = A.log2 + 2 := by
      have a1 := log_le A hA0
      have a2 : A < 2 ^ (A.log2 + 1) := Nat.lt_log2_self
      refine log2_is ?_ ?_
      · rw [Nat.pow_succ, Nat.pow_succ]
        omega
      · rw [show A.log2 + 2 + 1 = (A.log2 + 1) + 1 + 1 by omega, Nat.pow_succ, Nat.pow_succ]
        omega
    unfold Format.nearest
    rw [if_neg (by omega)]
    rw [hlog]
    have hf : ((D.fractionBits : Nat) : Int) = 52 := rfl
    simp only [hf, D_least, D_bin, D_inf]
    generalize hlast : max (e + ((A.log2 + 2 : Nat) : Int) - 52) (-1074) = last
    have hd3 : 3 ≤ last - e := by
      have := Int.le_max_left (e + ((A.log2 + 2 : Nat) : Int) - 52) (-1074)
      rw [hlast] at this
      omega
    obtain ⟨n, hn⟩ : ∃ n : Nat, last - e = (n : Int) := ⟨(last - e).toNat, by omega⟩
    rw [show (e - last).toNat = 0 by omega, Nat.shiftLeft_zero, hn, Int.toNat_natCast, Int.sub_neg]
    congr 3
    rw [cut_even, hlog]
    by_cases hle : n ≤ A.log2 + 4
    · rw [if_pos hle, Nat.min_eq_left hle]
      obtain ⟨k, rfl⟩ : ∃ k, n = k + 3 := ⟨n - 3, by omega⟩
      have hp := Nat.two_pow_pos k
      have e1 : 2 ^ (k + 3) = 4 * (2 * 2 ^ k) := by rw [Nat.pow_add]; omega
      have e2 : 2 ^ (k + 3 - 2) = 2 * 2 ^ k := by rw [show k + 3 - 2 = k + 1 by omega, Nat.pow_succ]; omega
      have e3 : 2 ^ (k + 3 - 3) = 2 ^ k := by rw [show k + 3 - 3 = k by omega]
      have dm := Nat.div_add_mod A (2 * 2 ^ k)
      have hm : A % (2 * 2 ^ k) < 2 * 2 ^ k := Nat.mod_lt _ (by omega)
      have hW : 4 * A + u = (4 * (2 * 2 ^ k)) * (A / (2 * 2 ^ k)) + (4 * (A % (2 * 2 ^ k)) + u) := by
        rw [Nat.mul_assoc]
        omega
      have q1 : (4 * A + u) / (4 * (2 * 2 ^ k)) = A / (2 * 2 ^ k) := by
        rw [hW, Nat.mul_add_div (by omega), Nat.div_eq_of_lt (show 4 * (A % (2 * 2 ^ k)) + u < 4 * (2 * 2 ^ k) by omega), Nat.add_zero]
      have q2 : (4 * A + u) % (4 * (2 * 2 ^ k)) = 4 * (A % (2 * 2 ^ k)) + u := by
        rw [hW, Nat.mul_add_mod, Nat.mod_eq_of_lt (show 4 * (A % (2 * 2 ^ k)) + u < 4 * (2 * 2 ^ k) by omega)]
      rw [e1, e2, e3, q1, q2]
      congr 1
      by_cases hc : 2 ^ k ≤ A % (2 * 2 ^ k)
      · rw [if_pos hc, if_pos (.inl (by omega))]
      · rw [if_neg hc, if_neg (by omega)]
    · rw [if_neg hle, Nat.min_eq_right (by omega)]
      have a2 : A < 2 ^ (A.log2 + 1) := Nat.lt_log2_self
      have e1 : 2 ^ (A.log2 + 2 + 2) = 8 * 2 ^ (A.log2 + 1) := by rw [show A.log2 + 2 + 2 = (A.log2 + 1) + 3 by omega, Nat.pow_add]; omega
      rw [Nat.div_eq_of_lt (by omega), Nat.mod_eq_of_lt (by omega), if_neg (by omega)]
  rw [key u h1 h3, key 2 (by omega) (by omega)]

/-- the quotient to so many digits, and one that says whether anything is left -/
def quo (m n k : Nat) : Nat := 2 * (m * 2 ^ k / n) + (if m * 2 ^ k % n = 0 then 0 else 1)

theorem quo_step (s : Bool) {m n k : Nat} {p : Int} (hn : 0 < n) (hA : 2 ^ 53 ≤ m * 2 ^ k / n) : D.nearest s (quo m n (k + 1)) (p - 1) = D.nearest s (quo m n k) p := by
  have dm := Nat.div_add_mod (m * 2 ^ k) n
  have hr : m * 2 ^ k % n < n := Nat.mod_lt _ hn
  generalize hA' : m * 2 ^ k / n = A at dm hA
  generalize hr' : m * 2 ^ k % n = r at dm hr
  have hm2 : m * 2 ^ (k + 1) = n * (2 * A) + 2 * r := by
    rw [Nat.pow_succ, ← Nat.mul_assoc, ← dm, Nat.mul_comm 2 A, ← Nat.mul_assoc]
    omega
  have hA0 : 0 < A := by have := Nat.two_pow_pos 53; omega
  unfold quo
  rw [hA', hr', hm2, Nat.mul_add_div hn, Nat.mul_add_mod]
  by_cases h0 : r = 0
  · subst h0
    rw [Nat.mul_zero, Nat.zero_div, Nat.zero_mod]
    simp only [if_true, Nat.add_zero]
    have := nearest_scale s (m := 2 * A) (d := 1) (e := p) (f := p - 1) (by omega) (by omega)
    rw [Nat.pow_one] at this
    rw [← this, Nat.mul_comm]
  · rw [if_neg h0]
    have hs := nearest_scale s (m := 2 * A + 1) (d := 1) (e := p) (f := p - 1) (by omega) (by omega)
    rw [Nat.pow_one] at hs
    rw [← hs, show (2 * A + 1) * 2 = 4 * A + 2 by omega]
    by_cases h2 : 2 * r < n
    · rw [Nat.div_eq_of_lt h2, Nat.mod_eq_of_lt h2, if_neg (by omega), Nat.add_zero (2 * A), show 2 * (2 * A) + 1 = 4 * A + 1 by omega]
      exact nearest_sticky s hA 1 (by omega) (by omega)
    · have e1 : 2 * r / n = 1 := by
        rw [show 2 * r = n * 1 + (2 * r - n) by omega, Nat.mul_add_div hn, Nat.div_eq_of_lt (by omega)]
      have e2 : 2 * r % n = 2 * r - n := by
        rw [show 2 * r = n * 1 + (2 * r - n) by omega, Nat.mul_add_mod, Nat.mod_eq_of_lt (by omega)]
        omega
      rw [e1, e2]
      by_cases h3 : 2 * r - n = 0
      · rw [if_pos h3, show 2 * (2 * A + 1) + 0 = 4 * A + 2 by omega]
      · rw [if_neg h3, show 2 * (2 * A + 1) + 1 = 4 * A + 3 by omega]
        exact nearest_sticky s hA 3 (by omega) (by omega)

theorem quo_steps (s : Bool) {m n k : Nat} {p : Int} (hn : 0 < n) (hA : 2 ^ 53 ≤ m * 2 ^ k / n) : ∀ j : Nat, D.nearest s (quo m n (k + j)) (p - j) = D.nearest s (quo m n k) p
  | 0 => by simp
  | j + 1 => by
    have ih := quo_steps s hn hA (p := p) j
    rw [← ih, ← Nat.add_assoc, show p - ((j + 1 : Nat) : Int) = p - (j : Int) - 1 by omega]
    refine quo_step s hn (Nat.le_trans hA (Nat.div_le_div_right (Nat.mul_le_mul_left _ ?_)))
    exact Nat.pow_le_pow_right (by decide) (by omega)

/-- how the document rounds, with a rest -/
theorem rnd_sticky (s : Bool) {w : Nat} (e : Int) (r : Bool) (hw : 2 ^ 54 ≤ w) (hb : w < 2 ^ 126) : rnd s w e r = D.nearest s (2 * w + r.toNat) (e - 1) := by
  have hw0 : w ≠ 0 := by have := Nat.two_pow_pos 54; omega
  have hbl := bitLen_pos hw0
  have hl : w.log2 < 126 := (Nat.log2_lt hw0).2 hb
  have hl54 : 54 ≤ w.log2 := (Nat.le_log2 hw0).2 hw
  have hr1 : r.toNat ≤ 1 := by cases r <;> decide
  have a1 := log_le w hw0
  have a2 : w < 2 ^ (w.log2 + 1) := Nat.lt_log2_self
  have hlog : (2 * w + r.toNat).log2 = w.log2 + 1 := by
    refine log2_is ?_ ?_
    · rw [Nat.pow_succ]
      omega
    · rw [Nat.pow_succ]
      omega
  have hlast : max (e - 1 + ((w.log2 + 1 : Nat) : Int) - (D.fractionBits : Int)) D.leastPlace = rndQ w e := by
    unfold rndQ
    rw [hbl, D_least, show (D.fractionBits : Int) = 52 from rfl]
    split
    · rw [Int.max_eq_right (by omega)]
    · rw [Int.max_eq_left (by omega)]
      omega
  have hq2 : 2 ≤ rndQ w e - e := by
    unfold rndQ
    rw [hbl]
    split <;> omega
  unfold rnd Format.nearest
  rw [if_neg (by omega), hlog]
  simp only [hlast]
  simp only [D_least, D_bin, D_inf]
  congr 1
  obtain ⟨n, hn⟩ : ∃ n : Nat, rndQ w e - e = (n : Int) := ⟨(rndQ w e - e).toNat, by omega⟩
  have hcut : Toward.even.cut s ((2 * w + r.toNat) <<< (e - 1 - rndQ w e).toNat) (rndQ w e - (e - 1)).toNat = rndM w n r := by
    rw [show (e - 1 - rndQ w e).toNat = 0 by omega, Nat.shiftLeft_zero, show (rndQ w e - (e - 1)).toNat = n + 1 by omega, cut_even, hlog]
    unfold rndM
    obtain ⟨k, rfl⟩ : ∃ k, n = k + 1 := ⟨n - 1, by omega⟩
    have hp := Nat.two_pow_pos k
    have e2 : 2 ^ (k + 1) = 2 * 2 ^ k := by rw [Nat.pow_succ]; omega
    by_cases hle : k + 1 + 1 ≤ w.log2 + 1 + 2
    · rw [Nat.min_eq_left hle, Nat.add_sub_cancel]
      have e1 : 2 ^ (k + 1 + 1) = 2 * (2 * 2 ^ k) := by rw [Nat.pow_succ, e2]; omega
      rw [e1, e2]
      have dm := Nat.div_add_mod w (2 * 2 ^ k)
      have hm : w % (2 * 2 ^ k) < 2 * 2 ^ k := Nat.mod_lt _ (by omega)
      have hW : 2 * w + r.toNat = (2 * (2 * 2 ^ k)) * (w / (2 * 2 ^ k)) + (2 * (w % (2 * 2 ^ k)) + r.toNat) := by
        rw [Nat.mul_assoc]
        omega
      have q1 : (2 * w + r.toNat) / (2 * (2 * 2 ^ k)) = w / (2 * 2 ^ k) := by
        rw [hW, Nat.mul_add_div (by omega), Nat.div_eq_of_lt (show 2 * (w % (2 * 2 ^ k)) + r.toNat < 2 * (2 * 2 ^ k) by omega), Nat.add_zero]
      have q2 : (2 * w + r.toNat) % (2 * (2 * 2 ^ k)) = 2 * (w % (2 * 2 ^ k)) + r.toNat := by
        rw [hW, Nat.mul_add_mod, Nat.mod_eq_of_lt (show 2 * (w % (2 * 2 ^ k)) + r.toNat < 2 * (2 * 2 ^ k) by omega)]
      rw [q1, q2]
      congr 1
      have hiff : (2 * (2 * 2 ^ k) < 2 * (2 * (w % (2 * 2 ^ k)) + r.toNat) ∨ 2 * (2 * 2 ^ k) = 2 * (2 * (w % (2 * 2 ^ k)) + r.toNat) ∧ w / (2 * 2 ^ k) % 2 = 1) ↔ (2 ^ k < w % (2 * 2 ^ k) ∨ w % (2 * 2 ^ k) = 2 ^ k ∧ (r = true ∨ w / (2 * 2 ^ k) % 2 = 1)) := by
        cases r
        · simp only [Bool.toNat_false, Bool.false_eq_true, false_or]
          omega
        · simp only [Bool.toNat_true, true_or, and_true]
          omega
      simp only [hiff]
    · rw [Nat.min_eq_right (by omega), Nat.add_sub_cancel]
      have e1 : 2 ^ (w.log2 + 1 + 2) = 4 * 2 ^ (w.log2 + 1) := by rw [Nat.pow_add]; omega
      have e3 : 2 ^ (w.log2 + 1) ≤ 2 ^ k := Nat.pow_le_pow_right (by decide) (by omega)
      have w1 : 2 * w + r.toNat < 2 ^ (w.log2 + 1 + 2) := by omega
      have w2 : w < 2 ^ (k + 1) := by omega
      rw [Nat.div_eq_of_lt w1, Nat.mod_eq_of_lt w1, Nat.div_eq_of_lt w2, Nat.mod_eq_of_lt w2, if_neg (by omega), if_neg (by omega)]
  rw [hcut, Int.sub_neg]
  have hq : -1074 ≤ rndQ w e := by
    unfold rndQ
    split <;> omega
  unfold rndR
  rw [hn, Int.toNat_natCast]
  by_cases h0 : 127 < (n : Int)
  · rw [if_pos h0]
    have hqq : rndQ w e = -1074 := by
      unfold rndQ at hn ⊢
      rw [hbl] at hn ⊢
      split
      · rfl
      · rename_i h3
        rw [if_neg h3] at hn
        omega
    have hm : rndM w n r = 0 := by
      unfold rndM
      have hp : 2 ^ 127 ≤ 2 ^ (n - 1) := Nat.pow_le_pow_right (by decide) (by omega)
      have hp2 : 2 ^ (n - 1) ≤ 2 ^ n := Nat.pow_le_pow_right (by decide) (by omega)
      have h127 : 2 ^ 126 < 2 ^ 127 := by decide
      have w2 : w < 2 ^ n := by omega
      rw [Nat.div_eq_of_lt w2, Nat.mod_eq_of_lt w2, if_neg (by omega)]
    rw [hm, hqq]
    rfl
  · rw [if_neg h0, if_neg (show ¬ ((n : Int) ≤ 0) by omega)]
    simp only []
    by_cases h2 : 971 < rndQ w e
    · rw [if_pos h2]
      have hk : n = w.log2 - 52 := by
        unfold rndQ at h2 hn
        rw [hbl] at h2 hn
        split at hn
        · rename_i h3
          rw [if_pos h3] at h2
          omega
        · omega
      have hge : 4503599627370496 ≤ rndM w n r := by
        rw [hk]
        unfold rndM
        have : 4503599627370496 ≤ w / 2 ^ (w.log2 - 52) := by
          rw [Nat.le_div_iff_mul_le (Nat.two_pow_pos _)]
          calc 4503599627370496 * 2 ^ (w.log2 - 52) = 2 ^ w.log2 := by rw [show (4503599627370496 : Nat) = 2 ^ 52 by decide, ← Nat.pow_add, show 52 + (w.log2 - 52) = w.log2 by omega]
            _ ≤ w := log_le w hw0
        omega
      have : 9218868437227405312 ≤ (rndQ w e + 1074).toNat * 4503599627370496 + rndM w n r := by omega
      rw [Nat.min_eq_right this]
      rfl
    · rw [if_neg h2]
      unfold infB
      split
      · rename_i h3
        rw [Nat.min_eq_right h3]
      · rename_i h3
        rw [Nat.min_eq_left (by omega)]

/-- the document's quotient -/
def rDiv (a b : Nat) : Nat :=
  if infB < a % signB ∨ infB < b % signB ∨ (a % signB = infB ∧ b % signB = infB) ∨ (a % signB = 0 ∧ b % signB = 0) then nanB
  else if a % signB = infB ∨ b % signB = 0 then D.word (decide (signB ≤ a) ^^ decide (signB ≤ b)) infB
  else if b % signB = infB ∨ a % signB = 0 then D.word (decide (signB ≤ a) ^^ decide (signB ≤ b)) 0
  else rnd (decide (signB ≤ a) ^^ decide (signB ≤ b)) (takenM (a % signB) * 2 ^ (123 - (takenM (a % signB)).log2) / takenM (b % signB)) (takenE (a % signB) - ((123 - (takenM (a % signB)).log2 : Nat) : Int) - takenE (b % signB)) (decide (takenM (a % signB) * 2 ^ (123 - (takenM (a % signB)).log2) % takenM (b % signB) ≠ 0))

theorem quo_rnd (s : Bool) {m n : Nat} (e f : Int) (hm0 : 0 < m) (hm : m < 9007199254740992) (hn0 : 0 < n) (hn : n < 9007199254740992) :
    D.nearest s (2 * (m <<< (54 + n.log2 - m.log2) / n) + (m <<< (54 + n.log2 - m.log2) % n != 0).toNat) (e - f - ((54 + n.log2 - m.log2 : Nat) : Int) - 1) = rnd s (m * 2 ^ (123 - m.log2) / n) (e - ((123 - m.log2 : Nat) : Int) - f) (decide (m * 2 ^ (123 - m.log2) % n ≠ 0)) := by
  have lm : m.log2 < 53 := (Nat.log2_lt (by omega)).2 (by omega)
  have ln : n.log2 < 53 := (Nat.log2_lt (by omega)).2 (by omega)
  have m1 := log_le m (by omega)
  have m2 : m < 2 ^ (m.log2 + 1) := Nat.lt_log2_self
  have n2 : n < 2 ^ (n.log2 + 1) := Nat.lt_log2_self
  obtain ⟨k, hk⟩ : ∃ k, k = 54 + n.log2 - m.log2 := ⟨_, rfl⟩
  obtain ⟨j, hj⟩ : ∃ j, 123 - m.log2 = k + j := ⟨123 - m.log2 - k, by omega⟩
  rw [← hk, hj, Nat.shiftLeft_eq]
  have hA : 2 ^ 53 ≤ m * 2 ^ k / n := by
    rw [Nat.le_div_iff_mul_le hn0]
    calc 2 ^ 53 * n ≤ 2 ^ 53 * 2 ^ (n.log2 + 1) := Nat.mul_le_mul_left _ (by omega)
      _ = 2 ^ m.log2 * 2 ^ k := by rw [← Nat.pow_add, ← Nat.pow_add, show 53 + (n.log2 + 1) = m.log2 + k by omega]
      _ ≤ m * 2 ^ k := Nat.mul_le_mul_right _ m1
  have hw1 : 2 ^ 123 ≤ m * 2 ^ (k + j) := by
    calc 2 ^ 123 = 2 ^ m.log2 * 2 ^ (k + j) := by rw [← Nat.pow_add, show m.log2 + (k + j) = 123 by omega]
      _ ≤ m * 2 ^ (k + j) := Nat.mul_le_mul_right _ m1
  have hw2 : m * 2 ^ (k + j) < 2 ^ 124 := by
    calc m * 2 ^ (k + j) < 2 ^ (m.log2 + 1) * 2 ^ (k + j) := Nat.mul_lt_mul_of_pos_right m2 (Nat.two_pow_pos _)
      _ = 2 ^ 124 := by rw [← Nat.pow_add, show m.log2 + 1 + (k + j) = 124 by omega]
  have hq1 : 2 ^ 54 ≤ m * 2 ^ (k + j) / n := by
    rw [Nat.le_div_iff_mul_le hn0]
    have : 2 ^ 54 * 9007199254740992 ≤ 2 ^ 123 := by decide
    have h2 : 2 ^ 54 * n ≤ 2 ^ 54 * 9007199254740992 := Nat.mul_le_mul_left _ (by omega)
    omega
  have hq2 : m * 2 ^ (k + j) / n < 2 ^ 126 := by
    have h1 := Nat.div_le_self (m * 2 ^ (k + j)) n
    have h2 : 2 ^ 124 < 2 ^ 126 := by decide
    omega
  rw [rnd_sticky s _ _ hq1 hq2]
  have h1 := quo_steps s hn0 hA (p := e - f - (k : Int) - 1) j
  have e1 : quo m n k = 2 * (m * 2 ^ k / n) + (m * 2 ^ k % n != 0).toNat := by
    unfold quo
    by_cases h : m * 2 ^ k % n = 0
    · rw [if_pos h, h]
      rfl
    · rw [if_neg h, show (m * 2 ^ k % n != 0) = true from bne_iff_ne.2 h]
      rfl
  have e2 : quo m n (k + j) = 2 * (m * 2 ^ (k + j) / n) + (decide (m * 2 ^ (k + j) % n ≠ 0)).toNat := by
    unfold quo
    by_cases h : m * 2 ^ (k + j) % n = 0
    · rw [if_pos h, decide_eq_false (by omega)]
      rfl
    · rw [if_neg h, decide_eq_true h]
      rfl
  rw [← e1, ← e2, ← h1]
  congr 1
  omega

theorem fdiv_eq {a b : Nat} (ha : a < 2 * signB) (hb : b < 2 * signB) : fdiv a b = rDiv a b := by
  unfold rDiv
  by_cases hn : infB < a % signB ∨ infB < b % signB
  · rw [if_pos (by
      rcases hn with h | h
      · exact .inl h
      · exact .inr (.inl h))]
    unfold fdiv Format.div
    rcases hn with h | h
    · obtain ⟨s, f, hr⟩ := read_isN ha (decide_eq_true h)
      rw [hr, quotient_nan_l]
      rfl
    · obtain ⟨s, f, hr⟩ := read_isN hb (decide_eq_true h)
      rw [hr, quotient_nan_r]
      rfl
  obtain ⟨wa, la⟩ := word_of ha
  obtain ⟨wb, lb⟩ := word_of hb
  obtain ⟨s, hs⟩ : ∃ s, s = decide (signB ≤ a) := ⟨_, rfl⟩
  obtain ⟨t, ht⟩ : ∃ t, t = decide (signB ≤ b) := ⟨_, rfl⟩
  obtain ⟨x, hx⟩ : ∃ x, x = a % signB := ⟨_, rfl⟩
  obtain ⟨y, hy⟩ : ∃ y, y = b % signB := ⟨_, rfl⟩
  rw [← hs, ← hx] at wa
  rw [← ht, ← hy] at wb
  rw [← hx] at la
  rw [← hy] at lb
  rw [← hx, ← hy] at hn
  rw [← hx, ← hy, ← hs, ← ht]
  rw [show fdiv a b = fdiv (D.word s x) (D.word t y) by rw [← wa, ← wb]]
  unfold fdiv Format.div
  have hi0 : infB ≠ 0 := by decide
  by_cases hxi : x = infB
  · by_cases hyi : y = infB
    · rw [if_pos (.inr (.inr (.inl ⟨hxi, hyi⟩))), hxi, hyi, read_inf, read_inf]
      rfl
    · rw [if_neg (by omega), if_pos (.inl hxi), hxi, read_inf, read_num t (by omega)]
      rfl
  · by_cases hyi : y = infB
    · rw [if_neg (by omega), if_neg (by omega), if_pos (.inl hyi), hyi, read_inf, read_num s (by omega)]
      simp only [Datum.quotient, Option.map_some, Option.getD_some]
      show D.nearest _ _ _ = _
      rw [nearest_none]
    · rw [read_num s (by omega), read_num t (by omega)]
      by_cases hy0 : y = 0
      · by_cases hx0 : x = 0
        · rw [if_pos (.inr (.inr (.inr ⟨hx0, hy0⟩)))]
          simp only [Datum.quotient, if_pos ((takenM_zero y).2 hy0), if_pos ((takenM_zero x).2 hx0)]
          rfl
        · rw [if_neg (by omega), if_pos (.inr hy0)]
          simp only [Datum.quotient, if_pos ((takenM_zero y).2 hy0), if_neg (fun h => hx0 ((takenM_zero x).1 h))]
          rfl
      · rw [if_neg (by omega), if_neg (by omega)]
        simp only [Datum.quotient, if_neg (fun h => hy0 ((takenM_zero y).1 h)), Option.map_some, Option.getD_some]
        show D.nearest _ _ _ = _
        by_cases hx0 : x = 0
        · rw [if_pos (.inr hx0), (takenM_zero x).2 hx0, Nat.zero_shiftLeft, Nat.zero_div, Nat.zero_mod]
          exact nearest_none _ _
        · rw [if_neg (by omega)]
          exact quo_rnd _ _ _ (takenM_pos hx0) taken_lt (takenM_pos hy0) taken_lt
end Go.Proofs.YtiidkgdlngcpgaaGreatDoor

namespace Go.Proofs.YtiidkgdlngcpgaaGreatDoor
open Ieee

/-- the number nearest to a whole one -/
def fof (n : Int) : Nat := D.nearest (decide (n < 0)) n.natAbs 0
def rOf (n : Int) : Nat := if n = 0 then 0 else rnd (decide (n < 0)) n.natAbs 0 false
theorem fof_eq {n : Int} (h : -9223372036854775808 ≤ n ∧ n ≤ 9223372036854775807) : fof n = rOf n := by
  unfold fof rOf
  by_cases h0 : n = 0
  · subst h0
    rw [if_pos rfl]
    exact nearest_none _ _
  · rw [if_neg h0]
    have h127 : 9223372036854775808 < 2 ^ 127 := by decide
    exact (rnd_nearest _ _ (by omega) (by omega)).symm

/-- the floor -/
def ffloor (a : Nat) : Nat := if isN a then nanB else D.write ((D.read a).integral .down)

def floorN (s : Bool) (m k : Nat) : Nat := m / 2 ^ k + (if s = true ∧ m % 2 ^ k ≠ 0 then 1 else 0)

theorem cut_down (s : Bool) (m k : Nat) : Toward.down.cut s m k = floorN s m k := by
  unfold Toward.cut floorN
  simp only [Nat.one_shiftLeft]
  by_cases hle : k ≤ m.log2 + 2
  · rw [Nat.min_eq_left hle]
    congr 1
    cases s
    · simp
    · by_cases h : m % 2 ^ k = 0
      · simp [h]
      · simp [h]
  · rw [Nat.min_eq_right (by omega)]
    have h1 : m < 2 ^ (m.log2 + 1) := Nat.lt_log2_self
    have h2 : 2 ^ (m.log2 + 1) ≤ 2 ^ (m.log2 + 2) := Nat.pow_le_pow_right (by decide) (by omega)
    have h3 : 2 ^ (m.log2 + 2) ≤ 2 ^ k := Nat.pow_le_pow_right (by decide) (by omega)
    have w1 : m < 2 ^ (m.log2 + 2) := by omega
    have w2 : m < 2 ^ k := by omega
    rw [Nat.div_eq_of_lt w1, Nat.mod_eq_of_lt w1, Nat.div_eq_of_lt w2, Nat.mod_eq_of_lt w2]
    congr 1
    cases s
    · simp
    · by_cases h : m = 0
      · simp [h]
      · simp [h]

/-- the document's floor -/
def rFloor (a : Nat) : Nat :=
  if isN a then nanB
  else if a % signB = infB ∨ a % signB = 0 then a
  else if 0 ≤ takenE (a % signB) then a
  else if floorN (decide (signB ≤ a)) (takenM (a % signB)) (-takenE (a % signB)).toNat = 0 then 0
  else rnd (decide (signB ≤ a)) (floorN (decide (signB ≤ a)) (takenM (a % signB)) (-takenE (a % signB)).toNat) 0 false

theorem floorN_lt {s : Bool} {m k : Nat} (hm : m < 9007199254740992) : floorN s m k < 2 ^ 127 := by
  unfold floorN
  have h1 := Nat.div_le_self m (2 ^ k)
  have h2 : 9007199254740993 < 2 ^ 127 := by decide
  split <;> omega

theorem floorN_zero {m k : Nat} (h : floorN true m k = 0) : m = 0 := by
  unfold floorN at h
  obtain ⟨h3, h4⟩ := Nat.add_eq_zero_iff.1 h
  have h1 : m % 2 ^ k = 0 := by
    by_cases c : m % 2 ^ k = 0
    · exact c
    · rw [if_pos ⟨rfl, c⟩] at h4
      cases h4
  have h2 := Nat.div_add_mod m (2 ^ k)
  rw [h3, h1, Nat.mul_zero] at h2
  exact h2.symm
theorem floorN_none (s : Bool) (k : Nat) : floorN s 0 k = 0 := by
  unfold floorN
  rw [Nat.zero_div, Nat.zero_mod, if_neg (by simp)]

theorem ffloor_eq {a : Nat} (ha : a < 2 * signB) : ffloor a = rFloor a := by
  unfold ffloor rFloor
  by_cases hn : isN a = true
  · rw [if_pos hn, if_pos hn]
  · rw [if_neg hn, if_neg hn]
    have hn2 : ¬ infB < a % signB := fun h => hn (decide_eq_true h)
    obtain ⟨wa, la⟩ := word_of ha
    obtain ⟨s, hs⟩ : ∃ s, s = decide (signB ≤ a) := ⟨_, rfl⟩
    obtain ⟨x, hx⟩ : ∃ x, x = a % signB := ⟨_, rfl⟩
    rw [← hs, ← hx] at wa
    rw [← hx] at la hn2
    rw [← hx, ← hs]
    by_cases hxi : x = infB
    · rw [if_pos (.inl hxi), wa, hxi, read_inf]
      show D.word s D.infRung = _
      rw [D_inf]
      rfl
    · rw [show D.read a = D.read (D.word s x) by rw [← wa], read_num s (by omega)]
      show D.nearest s (Toward.down.cut s (takenM x <<< (takenE x).toNat) (-takenE x).toNat) 0 = _
      rw [cut_down]
      by_cases hx0 : x = 0
      · rw [if_pos (.inr hx0), wa, hx0]
        rw [(takenM_zero 0).2 rfl, Nat.zero_shiftLeft, floorN_none, nearest_none]
      · rw [if_neg (by omega)]
        by_cases he : 0 ≤ takenE x
        · rw [if_pos he, show (-takenE x).toNat = 0 by omega, Nat.shiftLeft_eq]
          have h1 : floorN s (takenM x * 2 ^ (takenE x).toNat) 0 = takenM x * 2 ^ (takenE x).toNat := by
            unfold floorN
            rw [Nat.pow_zero, Nat.div_one, Nat.mod_one, if_neg (by simp)]
            rfl
          rw [h1, nearest_scale s (e := takenE x) (takenM_pos hx0) (by omega), nearest_taken s (by omega), wa]
        · rw [if_neg he, show (takenE x).toNat = 0 by omega, Nat.shiftLeft_zero]
          by_cases h0 : floorN s (takenM x) (-takenE x).toNat = 0
          · rw [if_pos h0, h0, nearest_none]
            have hsf : s = false := by
              cases s
              · rfl
              · exfalso
                have := takenM_pos hx0
                have := floorN_zero h0
                omega
            rw [hsf]
            rfl
          · rw [if_neg h0]
            exact (rnd_nearest _ _ h0 (floorN_lt taken_lt)).symm

/-! ### How two stand -/
def fval (a : Nat) : Int := if signB ≤ a then -((a % signB : Nat) : Int) else ((a % signB : Nat) : Int)

theorem cmp_same {p q p' q' : Int} (h1 : p < q ↔ p' < q') (h2 : p = q ↔ p' = q') : compare p q = compare p' q' := by
  simp only [compare, compareOfLessAndEq, h1, h2]

/-- the amounts of two rungs, at the lesser place -/
theorem amounts (x y : Nat) : (takenM x * 2 ^ (takenE x - min (takenE x) (takenE y)).toNat < takenM y * 2 ^ (takenE y - min (takenE x) (takenE y)).toNat ↔ x < y) ∧
    (takenM x * 2 ^ (takenE x - min (takenE x) (takenE y)).toNat = takenM y * 2 ^ (takenE y - min (takenE x) (takenE y)).toNat ↔ x = y) := by
  have lt : ∀ x y : Nat, x < y → takenM x * 2 ^ (takenE x - min (takenE x) (takenE y)).toNat < takenM y * 2 ^ (takenE y - min (takenE x) (takenE y)).toNat := by
    intro x y h
    have hmono := takenE_mono (Nat.le_of_lt h)
    rw [Int.min_eq_left hmono, Int.sub_self, Int.toNat_zero, Nat.pow_zero, Nat.mul_one]
    exact taken_mono h (by omega)
  rcases Nat.lt_trichotomy x y with h | h | h
  · have := lt x y h
    exact ⟨⟨fun _ => h, fun _ => this⟩, ⟨fun e => by omega, fun e => by omega⟩⟩
  · subst h
    exact ⟨⟨fun e => by omega, fun e => by omega⟩, ⟨fun _ => rfl, fun _ => rfl⟩⟩
  · have := lt y x h
    rw [Int.min_comm] at this
    exact ⟨⟨fun e => by omega, fun e => by omega⟩, ⟨fun e => by omega, fun e => by omega⟩⟩

theorem amount_zero (x d : Nat) : takenM x * 2 ^ d = 0 ↔ x = 0 := by
  have := Nat.two_pow_pos d
  rw [Nat.mul_eq_zero, takenM_zero]
  omega

theorem word_val (s : Bool) {x : Nat} (h : x < signB) : fval (D.word s x) = if s = true then -(x : Int) else (x : Int) := by
  unfold fval
  rw [word_mod s h]
  unfold Format.word
  rw [D_sw]
  unfold signB at *
  cases s
  · simp
    omega
  · simp

theorem order_val {a b : Nat} (ha : a < 2 * signB) (hb : b < 2 * signB) (hna : isN a = false) (hnb : isN b = false) : D.order a b = some (compare (fval a) (fval b)) := by
  obtain ⟨wa, la⟩ := word_of ha
  obtain ⟨wb, lb⟩ := word_of hb
  have na : ¬ infB < a % signB := of_decide_eq_false hna
  have nb : ¬ infB < b % signB := of_decide_eq_false hnb
  generalize decide (signB ≤ a) = s at wa
  generalize decide (signB ≤ b) = t at wb
  generalize a % signB = x at wa la na
  generalize b % signB = y at wb lb nb
  subst wa wb
  rw [word_val s la, word_val t lb]
  unfold Format.order
  by_cases hxi : x = infB
  · by_cases hyi : y = infB
    · subst hxi hyi
      rw [read_inf, read_inf]
      simp only [Datum.order]
      cases s <;> cases t <;> decide
    · rw [hxi, read_inf, read_num t (by omega)]
      simp only [Datum.order]
      congr 1
      have h1 : y < infB := by omega
      generalize infB = I at h1
      cases s
      · simp only [Bool.false_eq_true, if_false]
        symm
        rw [Int.compare_eq_gt]
        cases t <;> simp <;> omega
      · simp only [if_true]
        symm
        rw [Int.compare_eq_lt]
        cases t <;> simp <;> omega
  · by_cases hyi : y = infB
    · rw [hyi, read_inf, read_num s (by omega)]
      simp only [Datum.order]
      congr 1
      have h1 : x < infB := by omega
      generalize infB = I at h1
      cases t
      · simp only [Bool.false_eq_true, if_false]
        symm
        rw [Int.compare_eq_lt]
        cases s <;> simp <;> omega
      · simp only [if_true]
        symm
        rw [Int.compare_eq_gt]
        cases s <;> simp <;> omega
    · rw [read_num s (by omega), read_num t (by omega)]
      simp only [Datum.order]
      congr 1
      obtain ⟨am1, am2⟩ := amounts x y
      rw [signed_up, signed_up]
      have z1 := amount_zero x (takenE x - min (takenE x) (takenE y)).toNat
      have z2 := amount_zero y (takenE y - min (takenE x) (takenE y)).toNat
      generalize takenM x * 2 ^ (takenE x - min (takenE x) (takenE y)).toNat = X at am1 am2 z1
      generalize takenM y * 2 ^ (takenE y - min (takenE x) (takenE y)).toNat = Y at am1 am2 z2
      refine cmp_same ?_ ?_
      · cases s <;> cases t <;> simp only [Bool.false_eq_true, if_false, if_true] <;> omega
      · cases s <;> cases t <;> simp only [Bool.false_eq_true, if_false, if_true] <;> omega
end Go.Proofs.YtiidkgdlngcpgaaGreatDoor

namespace Go.Proofs.YtiidkgdlngcpgaaGreatDoor
open Ieee

def fless (a b : Nat) : Bool := match D.order a b with | some .lt => true | _ => false
def fequal (a b : Nat) : Bool := match D.order a b with | some .eq => true | _ => false

theorem order_nan {a b : Nat} (ha : a < 2 * signB) (hb : b < 2 * signB) (h : isN a = true ∨ isN b = true) : D.order a b = none := by
  unfold Format.order
  rcases h with h | h
  · obtain ⟨s, f, hr⟩ := read_isN ha h
    rw [hr]
    cases D.read b <;> rfl
  · obtain ⟨s, f, hr⟩ := read_isN hb h
    rw [hr]
    cases D.read a <;> rfl

theorem fless_val {a b : Nat} (ha : a < 2 * signB) (hb : b < 2 * signB) : fless a b = (!isN a && !isN b && decide (fval a < fval b)) := by
  unfold fless
  by_cases h : isN a = true ∨ isN b = true
  · rw [order_nan ha hb h]
    rcases h with h | h <;> simp [h]
  · have h1 : isN a = false := by
      cases hx : isN a
      · rfl
      · exact absurd (.inl hx) h
    have h2 : isN b = false := by
      cases hx : isN b
      · rfl
      · exact absurd (.inr hx) h
    rw [order_val ha hb h1 h2, h1, h2]
    by_cases hlt : fval a < fval b
    · rw [Int.compare_eq_lt.2 hlt]
      simp [hlt]
    · have : compare (fval a) (fval b) ≠ .lt := fun e => hlt (Int.compare_eq_lt.1 e)
      simp only [hlt, decide_false, Bool.and_false]
      split
      · rename_i e
        injection e with e
        exact absurd e this
      · rfl
theorem fequal_val {a b : Nat} (ha : a < 2 * signB) (hb : b < 2 * signB) : fequal a b = (!isN a && !isN b && decide (fval a = fval b)) := by
  unfold fequal
  by_cases h : isN a = true ∨ isN b = true
  · rw [order_nan ha hb h]
    rcases h with h | h <;> simp [h]
  · have h1 : isN a = false := by
      cases hx : isN a
      · rfl
      · exact absurd (.inl hx) h
    have h2 : isN b = false := by
      cases hx : isN b
      · rfl
      · exact absurd (.inr hx) h
    rw [order_val ha hb h1 h2, h1, h2]
    by_cases hlt : fval a = fval b
    · rw [Int.compare_eq_eq.2 hlt]
      simp [hlt]
    · have : compare (fval a) (fval b) ≠ .eq := fun e => hlt (Int.compare_eq_eq.1 e)
      simp only [hlt, decide_false, Bool.and_false]
      split
      · rename_i e
        injection e with e
        exact absurd e this
      · rfl

/-- a number that stands as a number does in Order: package num's, and the document's -/
def fkey (a : Nat) : Nat := if isN a then 18446744073709551615 else if signB ≤ a then 18446744073709551615 - a else a + signB
def rrank (a : Nat) : Nat := if isN a then signB + infB + 1 else if signB ≤ a then 18446744073709551615 - a else a + signB
def forder (a b : Nat) : Int := if fkey a < fkey b then -1 else if fkey b < fkey a then 1 else 0
def rOrder (a b : Nat) : Int := if rrank a < rrank b then -1 else if rrank b < rrank a then 1 else 0

theorem isN_iff (a : Nat) : isN a = true ↔ infB < a % signB := by
  unfold isN
  exact decide_eq_true_iff

theorem key_rank {a b : Nat} (ha : a < 2 * signB) (hb : b < 2 * signB) : fkey a < fkey b ↔ rrank a < rrank b := by
  have h1 := isN_iff a
  have h2 := isN_iff b
  unfold fkey rrank
  unfold signB infB at *
  by_cases c1 : isN a = true
  · by_cases c2 : isN b = true
    · rw [if_pos c1, if_pos c1, if_pos c2, if_pos c2]
      omega
    · rw [if_pos c1, if_pos c1, if_neg c2, if_neg c2]
      rw [c1] at h1
      have := mt h2.2 c2
      split <;> omega
  · by_cases c2 : isN b = true
    · rw [if_neg c1, if_neg c1, if_pos c2, if_pos c2]
      have := mt h1.2 c1
      split <;> omega
    · rw [if_neg c1, if_neg c1, if_neg c2, if_neg c2]

theorem forder_eq {a b : Nat} (ha : a < 2 * signB) (hb : b < 2 * signB) : forder a b = rOrder a b := by
  unfold forder rOrder
  simp only [key_rank ha hb, key_rank hb ha]

/-- the document's Equal and Less -/
def rEqual (a b : Nat) : Bool := !isN a && !isN b && (decide (a = b) || (decide (a % signB = 0) && decide (b % signB = 0)))
def rLess (a b : Nat) : Bool := !isN a && !isN b && !rEqual a b && decide (rOrder a b < 0)

theorem fequal_eq {a b : Nat} (ha : a < 2 * signB) (hb : b < 2 * signB) : fequal a b = rEqual a b := by
  rw [fequal_val ha hb]
  unfold rEqual
  congr 1
  have : fval a = fval b ↔ (a = b ∨ (a % signB = 0 ∧ b % signB = 0)) := by
    unfold fval
    unfold signB at *
    split <;> split <;> omega
  by_cases h : fval a = fval b
  · rw [decide_eq_true h]
    rcases this.1 h with e | ⟨e1, e2⟩
    · simp [e]
    · simp [e1, e2]
  · rw [decide_eq_false h]
    have h2 := mt this.2 h
    rw [not_or, not_and] at h2
    have e1 : decide (a = b) = false := decide_eq_false h2.1
    rw [e1, Bool.false_or]
    by_cases h3 : a % signB = 0
    · rw [decide_eq_false (h2.2 h3), Bool.and_false]
    · rw [decide_eq_false h3, Bool.false_and]

theorem fless_eq {a b : Nat} (ha : a < 2 * signB) (hb : b < 2 * signB) : fless a b = rLess a b := by
  rw [fless_val ha hb]
  unfold rLess
  by_cases h1 : isN a = true
  · simp [h1]
  by_cases h2 : isN b = true
  · simp [h2]
  rw [Bool.not_eq_true] at h1 h2
  rw [← fequal_eq ha hb, fequal_val ha hb, h1, h2]
  simp only [Bool.not_false, Bool.true_and]
  have hr : rOrder a b < 0 ↔ rrank a < rrank b := by
    unfold rOrder
    split
    · rename_i h
      exact ⟨fun _ => h, fun _ => by decide⟩
    · rename_i h
      constructor
      · intro e
        split at e <;> omega
      · intro e
        exact absurd e h
  have key : fval a < fval b ↔ (¬ fval a = fval b ∧ rrank a < rrank b) := by
    unfold rrank
    rw [h1, h2]
    unfold fval
    unfold signB infB at *
    simp only [Bool.false_eq_true, if_false]
    split <;> split <;> omega
  by_cases h : fval a < fval b
  · obtain ⟨k1, k2⟩ := key.1 h
    rw [decide_eq_true h, decide_eq_false k1, decide_eq_true (hr.2 k2)]
    rfl
  · rw [decide_eq_false h]
    by_cases k1 : fval a = fval b
    · rw [decide_eq_true k1]
      rfl
    · rw [decide_eq_false k1, decide_eq_false (fun e => h (key.2 ⟨k1, hr.1 e⟩))]
      rfl

/-- the document's Min, Max -/
def rMin (a b : Nat) : Nat := if isN a || isN b then nanB else if rOrder a b ≤ 0 then a else b
def rMax (a b : Nat) : Nat := if isN a || isN b then nanB else if 0 ≤ rOrder a b then a else b

/-- NumLines: Order is one order -/
theorem order_turn {a b : Nat} : forder b a = -forder a b := by
  unfold forder
  split <;> split <;> first | omega | (split <;> omega) | rfl
theorem order_zero {a b : Nat} (ha : a < 2 * signB) (hb : b < 2 * signB) : forder a b = 0 ↔ fcan a = fcan b := by
  have h1 := isN_iff a
  have h2 := isN_iff b
  have hk : forder a b = 0 ↔ fkey a = fkey b := by
    unfold forder
    split
    · constructor
      · intro e; cases e
      · intro e; omega
    · split
      · constructor
        · intro e; cases e
        · intro e; omega
      · constructor
        · intro _; omega
        · intro _; rfl
  rw [hk]
  unfold fkey fcan nanB
  unfold signB infB at *
  by_cases c1 : isN a = true
  · have d1 := h1.1 c1
    rw [if_pos c1, if_pos c1]
    by_cases c2 : isN b = true
    · rw [if_pos c2, if_pos c2]
      simp
    · have d2 := mt h2.2 c2
      rw [if_neg c2, if_neg c2]
      split <;> omega
  · have d1 := mt h1.2 c1
    rw [if_neg c1, if_neg c1]
    by_cases c2 : isN b = true
    · have d2 := h2.1 c2
      rw [if_pos c2, if_pos c2]
      split <;> omega
    · rw [if_neg c2, if_neg c2]
      split <;> split <;> omega
theorem order_trans {a b c : Nat} (h1 : forder a b ≤ 0) (h2 : forder b c ≤ 0) : forder a c ≤ 0 := by
  have hk : ∀ x y : Nat, forder x y ≤ 0 ↔ fkey x ≤ fkey y := by
    intro x y
    unfold forder
    split
    · constructor <;> intro _ <;> omega
    · split
      · constructor <;> intro _ <;> omega
      · constructor <;> intro _ <;> omega
  rw [hk] at *
  omega
end Go.Proofs.YtiidkgdlngcpgaaGreatDoor

namespace Go.Proofs.YtiidkgdlngcpgaaGreatDoor
open Ieee

/-- the rung that a number is rounded to -/
def rung (m : Nat) (e : Int) : Nat := (D.nearest false m e)
theorem nearest_is (s : Bool) (m : Nat) (e : Int) : D.nearest s m e = D.word s (rung m e) ∧ rung m e ≤ infB := by
  obtain ⟨r, hr, h⟩ := nearest_rung s m e
  have h1 : rung m e = r := by
    unfold rung
    rw [h false]
    unfold Format.word
    simp
  rw [h1]
  exact ⟨h s, hr⟩

/-- the rounding of a whole number -/
def half (w n : Nat) : Nat := Toward.even.cut false w n
theorem half_zero (w : Nat) : half w 0 = w := cut_zero _ _
theorem half_is {w n : Nat} (hn : 0 < n) : half w n = rndM w n false := cut_rnd _ hn

theorem half_bounds (w n : Nat) : w / 2 ^ n ≤ half w n ∧ half w n ≤ w / 2 ^ n + 1 := by
  by_cases hn : n = 0
  · subst hn
    rw [half_zero, Nat.pow_zero, Nat.div_one]
    omega
  · rw [half_is (by omega)]
    unfold rndM
    split <;> omega

theorem half_mono {v w : Nat} (n : Nat) (h : v ≤ w) : half v n ≤ half w n := by
  by_cases hn : n = 0
  · subst hn
    rw [half_zero, half_zero]
    exact h
  · have hq : v / 2 ^ n ≤ w / 2 ^ n := Nat.div_le_div_right h
    rcases Nat.lt_or_ge (v / 2 ^ n) (w / 2 ^ n) with hlt | hge
    · have h1 := (half_bounds v n).2
      have h2 := (half_bounds w n).1
      omega
    · have he : v / 2 ^ n = w / 2 ^ n := Nat.le_antisymm hq hge
      rw [half_is (by omega), half_is (by omega)]
      unfold rndM
      have d1 := Nat.div_add_mod v (2 ^ n)
      have d2 := Nat.div_add_mod w (2 ^ n)
      rw [he] at d1 ⊢
      have hr : v % 2 ^ n ≤ w % 2 ^ n := by omega
      generalize v % 2 ^ n = r1 at hr ⊢
      generalize w % 2 ^ n = r2 at hr ⊢
      generalize 2 ^ (n - 1) = H
      generalize w / 2 ^ n = q
      simp only [Bool.false_eq_true, false_or]
      by_cases c1 : H < r1 ∨ r1 = H ∧ q % 2 = 1
      · rw [if_pos c1, if_pos (by omega)]
        omega
      · rw [if_neg c1]
        omega

/-- the place that a number's last digit is rounded to -/
def lastOf (w : Nat) (p : Int) : Int := max (p + (w.log2 : Int) - 52) (-1074)
theorem rung_is {w : Nat} {p : Int} (hw : w ≠ 0) : rung w p = min ((lastOf w p + 1074).toNat * 4503599627370496 + half (w * 2 ^ (p - lastOf w p).toNat) (lastOf w p - p).toNat) infB := by
  unfold rung Format.nearest
  rw [if_neg hw]
  have : max (p + (w.log2 : Int) - (D.fractionBits : Int)) D.leastPlace = lastOf w p := by
    unfold lastOf
    rw [D_least]
    rfl
  simp only [this]
  simp only [D_least, D_bin, D_inf]
  rw [Int.sub_neg, Nat.shiftLeft_eq]
  unfold Format.word
  simp only [Bool.false_eq_true, if_false]
  rfl

theorem half_le {w p : Nat} (k : Nat) (h : w < 2 ^ (k + p)) : half w p ≤ 2 ^ k := by
  have h1 := (half_bounds w p).2
  have h2 : w / 2 ^ p < 2 ^ k := by
    rw [Nat.div_lt_iff_lt_mul (Nat.two_pow_pos p), ← Nat.pow_add]
    exact h
  omega
theorem half_ge {w p : Nat} (k : Nat) (h : 2 ^ (k + p) ≤ w) : 2 ^ k ≤ half w p := by
  have h1 := (half_bounds w p).1
  have h2 : 2 ^ k ≤ w / 2 ^ p := by
    rw [Nat.le_div_iff_mul_le (Nat.two_pow_pos p), ← Nat.pow_add]
    exact h
  omega

/-- what is kept has 53 digits at most, and 53 where the number is no tiny one -/
theorem kept_le (w : Nat) (p : Int) : half (w * 2 ^ (p - lastOf w p).toNat) (lastOf w p - p).toNat ≤ 9007199254740992 := by
  have h2 : w < 2 ^ (w.log2 + 1) := Nat.lt_log2_self
  rw [show (9007199254740992 : Nat) = 2 ^ 53 by decide]
  refine half_le 53 ?_
  have hl : p + (w.log2 : Int) - 52 ≤ lastOf w p := Int.le_max_left _ _
  by_cases c : lastOf w p ≤ p
  · rw [show (lastOf w p - p).toNat = 0 by omega, Nat.add_zero]
    calc w * 2 ^ (p - lastOf w p).toNat < 2 ^ (w.log2 + 1) * 2 ^ (p - lastOf w p).toNat := Nat.mul_lt_mul_of_pos_right h2 (Nat.two_pow_pos _)
      _ ≤ 2 ^ 53 := by
        rw [← Nat.pow_add]
        exact Nat.pow_le_pow_right (by decide) (by omega)
  · rw [show (p - lastOf w p).toNat = 0 by omega, Nat.pow_zero, Nat.mul_one]
    calc w < 2 ^ (w.log2 + 1) := h2
      _ ≤ 2 ^ (53 + (lastOf w p - p).toNat) := Nat.pow_le_pow_right (by decide) (by omega)
theorem kept_ge {w : Nat} {p : Int} (hw : w ≠ 0) (hl : -1074 < lastOf w p) : 4503599627370496 ≤ half (w * 2 ^ (p - lastOf w p).toNat) (lastOf w p - p).toNat := by
  have h1 := log_le w hw
  have he : lastOf w p = p + (w.log2 : Int) - 52 := by
    unfold lastOf at hl ⊢
    omega
  rw [show (4503599627370496 : Nat) = 2 ^ 52 by decide]
  refine half_ge 52 ?_
  by_cases c : lastOf w p ≤ p
  · rw [show (lastOf w p - p).toNat = 0 by omega, Nat.add_zero]
    calc 2 ^ 52 = 2 ^ w.log2 * 2 ^ (p - lastOf w p).toNat := by rw [← Nat.pow_add, show w.log2 + (p - lastOf w p).toNat = 52 by omega]
      _ ≤ w * 2 ^ (p - lastOf w p).toNat := Nat.mul_le_mul_right _ h1
  · rw [show (p - lastOf w p).toNat = 0 by omega, Nat.pow_zero, Nat.mul_one, show 52 + (lastOf w p - p).toNat = w.log2 by omega]
    exact h1

theorem rungs_le {L1 L2 K1 K2 I : Nat} (h : L1 + 1 ≤ L2) (k1 : K1 ≤ 9007199254740992) (k2 : 4503599627370496 ≤ K2) : min (L1 * 4503599627370496 + K1) I ≤ min (L2 * 4503599627370496 + K2) I := by
  have h2 := Nat.mul_le_mul_right 4503599627370496 h
  rw [Nat.add_mul] at h2
  omega

theorem rung_mono {v w : Nat} (p : Int) (h : v ≤ w) : rung v p ≤ rung w p := by
  by_cases hv : v = 0
  · subst hv
    unfold rung
    rw [nearest_none]
    exact Nat.zero_le _
  have hw : w ≠ 0 := by omega
  have hlog : v.log2 ≤ w.log2 := (Nat.le_log2 hw).2 (Nat.le_trans (log_le v hv) h)
  rw [rung_is hv, rung_is hw]
  have hlast : lastOf v p ≤ lastOf w p := by
    unfold lastOf
    omega
  by_cases hl : lastOf v p = lastOf w p
  · rw [hl]
    have := half_mono (lastOf w p - p).toNat (Nat.mul_le_mul_right (2 ^ (p - lastOf w p).toNat) h)
    omega
  · have k1 := kept_le v p
    have k2 := kept_ge (p := p) hw (by
      have : -1074 ≤ lastOf v p := Int.le_max_right _ _
      omega)
    have h3 : -1074 ≤ lastOf v p := Int.le_max_right _ _
    have h4 : (lastOf v p + 1074).toNat + 1 ≤ (lastOf w p + 1074).toNat := by omega
    exact rungs_le h4 k1 k2
end Go.Proofs.YtiidkgdlngcpgaaGreatDoor

namespace Go.Proofs.YtiidkgdlngcpgaaGreatDoor
open Ieee

/-- the exact value of a finite number, in units of 2^-1074 -/
def exact (s : Bool) (x : Nat) : Int := signed s (takenM x) (takenE x + 1074).toNat
/-- a value in such units, rounded: its rung with its sign -/
def rounds (T : Int) : Int := if T < 0 then -(rung T.natAbs (-1074) : Int) else (rung T.natAbs (-1074) : Int)

theorem rounds_mono {T U : Int} (h : T ≤ U) : rounds T ≤ rounds U := by
  unfold rounds
  by_cases h1 : T < 0
  · rw [if_pos h1]
    by_cases h2 : U < 0
    · rw [if_pos h2]
      have := rung_mono (v := U.natAbs) (w := T.natAbs) (-1074) (by omega)
      omega
    · rw [if_neg h2]
      omega
  · rw [if_neg h1, if_neg (by omega)]
    have := rung_mono (v := T.natAbs) (w := U.natAbs) (-1074) (by omega)
    omega

theorem signed_mul (s : Bool) (m u k : Nat) : signed s m u * ((2 ^ k : Nat) : Int) = signed s m (u + k) := by
  rw [signed_up, signed_up, Nat.pow_add, ← Nat.mul_assoc]
  cases s
  · simp only [Bool.false_eq_true, if_false]
    exact (Int.natCast_mul _ _).symm
  · simp only [if_true]
    rw [Int.neg_mul, Int.natCast_mul (m * 2 ^ u) (2 ^ k)]

theorem rung_none (p : Int) : rung 0 p = 0 := by
  unfold rung
  rw [nearest_none]
  rfl

/-- a number of a place, rounded -/
theorem val_nearest {tot base : Int} (hb : -1074 ≤ base) (h0 : tot ≠ 0) : fval (D.nearest (decide (tot < 0)) tot.natAbs base) = rounds (tot * ((2 ^ (base + 1074).toNat : Nat) : Int)) := by
  have hsc := nearest_scale (decide (tot < 0)) (m := tot.natAbs) (d := (base + 1074).toNat) (e := base) (f := -1074) (by omega) (by omega)
  rw [← hsc]
  obtain ⟨h1, h2⟩ := nearest_is (decide (tot < 0)) (tot.natAbs * 2 ^ (base + 1074).toNat) (-1074)
  rw [h1, word_val _ (Nat.lt_of_le_of_lt h2 (by decide))]
  have hp := Nat.two_pow_pos (base + 1074).toNat
  obtain ⟨P, hP⟩ : ∃ P : Nat, P = 2 ^ (base + 1074).toNat := ⟨_, rfl⟩
  rw [← hP] at hp ⊢
  unfold rounds
  have hna : (tot * (P : Int)).natAbs = tot.natAbs * P := by rw [Int.natAbs_mul, Int.natAbs_natCast]
  rw [hna]
  by_cases hs : tot < 0
  · have h3 : tot * (P : Int) < 0 := Int.mul_neg_of_neg_of_pos hs (by omega)
    rw [if_pos h3, decide_eq_true hs, if_pos rfl]
  · have h3 : ¬ tot * (P : Int) < 0 := by
      have := Int.mul_nonneg (a := tot) (b := (P : Int)) (by omega) (by omega)
      omega
    rw [if_neg h3, decide_eq_false hs, if_neg (by decide)]

/-- a sum is its exact value, rounded -/
theorem val_add (s t : Bool) {x y : Nat} (hx : x < infB) (hy : y < infB) : fval (fadd (D.word s x) (D.word t y)) = rounds (exact s x + exact t y) := by
  unfold fadd Format.add
  rw [read_num s hx, read_num t hy]
  simp only [Datum.sum, Option.map_some, Option.getD_some]
  have hge1 := takenE_ge x
  have hge2 := takenE_ge y
  obtain ⟨base, hbase⟩ : ∃ b, b = min (takenE x) (takenE y) := ⟨_, rfl⟩
  rw [← hbase]
  have hb1 : base ≤ takenE x := by rw [hbase]; exact Int.min_le_left _ _
  have hb2 : base ≤ takenE y := by rw [hbase]; exact Int.min_le_right _ _
  have hb3 : -1074 ≤ base := by omega
  refine (congrArg fval (write_total (signed s (takenM x) (takenE x - base).toNat + signed t (takenM y) (takenE y - base).toNat) base s t)).trans ?_
  have hT : exact s x + exact t y = (signed s (takenM x) (takenE x - base).toNat + signed t (takenM y) (takenE y - base).toNat) * ((2 ^ (base + 1074).toNat : Nat) : Int) := by
    unfold exact
    rw [Int.add_mul, signed_mul, signed_mul, show (takenE x - base).toNat + (base + 1074).toNat = (takenE x + 1074).toNat by omega, show (takenE y - base).toNat + (base + 1074).toNat = (takenE y + 1074).toNat by omega]
  rw [hT]
  by_cases h0 : signed s (takenM x) (takenE x - base).toNat + signed t (takenM y) (takenE y - base).toNat = 0
  · rw [if_pos h0, h0, Int.zero_mul, word_val _ (by decide)]
    have : rounds 0 = 0 := by
      unfold rounds
      rw [if_neg (by decide)]
      show ((rung 0 (-1074) : Nat) : Int) = 0
      rw [rung_none]
      rfl
    rw [this]
    split <;> rfl
  · rw [if_neg h0]
    exact val_nearest hb3 h0


/-- the exact value of a rung, rounded, is that rung -/
theorem rung_exact {r : Nat} (h : r < infB) : rung (takenM r * 2 ^ (takenE r + 1074).toNat) (-1074) = r := by
  by_cases h0 : r = 0
  · subst h0
    rw [(takenM_zero 0).2 rfl, Nat.zero_mul, rung_none]
  · have hge := takenE_ge r
    unfold rung
    rw [nearest_scale false (e := takenE r) (takenM_pos h0) (by omega), nearest_taken false h]
    unfold Format.word
    simp

/-- a value of 53 digits at most is a rung's -/
theorem rep {m : Nat} (hm : m < 9007199254740992) : ∀ k : Nat, k ≤ 2045 → ∃ r, r < infB ∧ takenM r * 2 ^ (takenE r + 1074).toNat = m * 2 ^ k := by
  intro k
  induction k generalizing m with
  | zero =>
    intro _
    refine ⟨m, Nat.lt_trans hm (by decide), ?_⟩
    by_cases c : m < 4503599627370496
    · have e1 : takenE m = -1074 := if_pos c
      have e2 : takenM m = m := if_pos c
      rw [e1, e2]
      rfl
    · have e1 : takenE m = -1074 := by
        unfold takenE
        rw [if_neg c]
        omega
      have e2 : takenM m = m := by
        unfold takenM
        rw [if_neg c]
        omega
      rw [e1, e2]
      rfl
  | succ k ih =>
    intro hk
    by_cases c : m < 4503599627370496
    · obtain ⟨r, h1, h2⟩ := ih (m := 2 * m) (by omega) (by omega)
      refine ⟨r, h1, h2.trans ?_⟩
      rw [Nat.pow_succ, Nat.mul_comm 2 m, Nat.mul_assoc, Nat.mul_comm 2]
    · refine ⟨(k + 1) * 4503599627370496 + m, ?_, ?_⟩
      · unfold infB
        omega
      · have c2 : ¬ (k + 1) * 4503599627370496 + m < 4503599627370496 := by omega
        have e1 : takenE ((k + 1) * 4503599627370496 + m) = (k + 1 : Nat) - 1074 := by
          unfold takenE
          rw [if_neg c2]
          omega
        have e2 : takenM ((k + 1) * 4503599627370496 + m) = m := by
          unfold takenM
          rw [if_neg c2]
          omega
        rw [e1, e2, show (((k + 1 : Nat) : Int) - 1074 + 1074).toNat = k + 1 by omega]

/-- a rung's exact value, and its sign -/
theorem exact_is (s : Bool) (x : Nat) : exact s x = if s = true then -((takenM x * 2 ^ (takenE x + 1074).toNat : Nat) : Int) else ((takenM x * 2 ^ (takenE x + 1074).toNat : Nat) : Int) := by
  unfold exact
  rw [signed_up]
theorem rounds_exact (s : Bool) {x : Nat} (h : x < infB) : rounds (exact s x) = if s = true then -(x : Int) else (x : Int) := by
  have hr := rung_exact h
  rw [exact_is]
  generalize hN : takenM x * 2 ^ (takenE x + 1074).toNat = N at hr ⊢
  unfold rounds
  cases s
  · simp only [Bool.false_eq_true, if_false]
    rw [if_neg (by omega), Int.natAbs_natCast, hr]
  · simp only [if_true]
    by_cases c : -(N : Int) < 0
    · rw [if_pos c, Int.natAbs_neg, Int.natAbs_natCast, hr]
    · rw [if_neg c, Int.natAbs_neg, Int.natAbs_natCast, hr]
      have hN0 : N = 0 := by omega
      rw [hN0, rung_none] at hr
      omega
end Go.Proofs.YtiidkgdlngcpgaaGreatDoor

namespace Go.Proofs.YtiidkgdlngcpgaaGreatDoor
open Ieee

def NN (x : Nat) : Nat := takenM x * 2 ^ (takenE x + 1074).toNat
theorem NN_le {x y : Nat} (hx : x < infB) (hy : y < infB) : NN x ≤ NN y ↔ x ≤ y := by
  have key : ∀ {x y : Nat}, x < infB → y < infB → NN x ≤ NN y → x ≤ y := by
    intro x y hx hy h
    have h1 := rung_mono (-1074) h
    unfold NN at h1
    rw [rung_exact hx, rung_exact hy] at h1
    exact h1
  refine ⟨key hx hy, fun h => ?_⟩
  rcases Nat.lt_or_ge (NN y) (NN x) with h2 | h2
  · have h3 := key hy hx (Nat.le_of_lt h2)
    have : x = y := by omega
    subst this
    exact Nat.le_refl _
  · exact h2
theorem exact_NN (s : Bool) (x : Nat) : exact s x = if s = true then -(NN x : Int) else (NN x : Int) := exact_is s x

theorem NN_twice {a b : Nat} (ha : a < infB) (hb : b < infB) (h : ¬ fval (fadd a a) < fval b) : NN b ≤ 2 * NN a := by
  have hwa : a = D.word false a := by unfold Format.word; simp
  have hwb : b = D.word false b := by unfold Format.word; simp
  have hva : fval (fadd a a) = rounds ((NN a : Int) + (NN a : Int)) := by
    have := val_add false false ha ha
    rw [← hwa, exact_NN] at this
    simpa using this
  have hvb : fval b = (b : Int) := by
    have := word_val false (Nat.lt_trans hb (by decide) : b < signB)
    rw [← hwb] at this
    simpa using this
  by_cases hk : (takenE a + 1074).toNat + 1 ≤ 2045
  · obtain ⟨r, hr1, hr2⟩ := rep (m := takenM a) taken_lt ((takenE a + 1074).toNat + 1) hk
    have hNr : NN r = 2 * NN a := by
      unfold NN
      rw [hr2, Nat.pow_succ, ← Nat.mul_assoc, Nat.mul_comm]
    have hround : rounds ((NN a : Int) + (NN a : Int)) = (r : Int) := by
      have := rounds_exact false hr1
      rw [exact_NN, hNr] at this
      simp only [Bool.false_eq_true, if_false] at this
      rw [← this]
      congr 1
      omega
    rw [hva, hround, hvb] at h
    have := (NN_le hb hr1).2 (by omega)
    omega
  · have hle := takenE_le ha
    have he : takenE a = 971 := by omega
    have hm : 4503599627370496 ≤ takenM a := by
      have c : ¬ a < 4503599627370496 := by
        intro c
        have : takenE a = -1074 := if_pos c
        omega
      unfold takenM
      rw [if_neg c]
      omega
    have hb1 : takenM b ≤ 9007199254740992 := Nat.le_of_lt taken_lt
    have hb2 : (takenE b + 1074).toNat ≤ (takenE a + 1074).toNat := by
      have := takenE_le hb
      omega
    unfold NN
    calc takenM b * 2 ^ (takenE b + 1074).toNat ≤ 9007199254740992 * 2 ^ (takenE a + 1074).toNat := Nat.mul_le_mul hb1 (Nat.pow_le_pow_right (by decide) hb2)
      _ = 2 * (4503599627370496 * 2 ^ (takenE a + 1074).toNat) := by rw [← Nat.mul_assoc]
      _ ≤ 2 * (takenM a * 2 ^ (takenE a + 1074).toNat) := Nat.mul_le_mul_left _ (Nat.mul_le_mul_right _ hm)

/-- the difference of two near amounts has 53 digits at most -/
theorem diff_rep {a b : Nat} (ha : a < infB) (hb : b < infB) (h1 : NN b ≤ 2 * NN a) (h2 : NN a ≤ 2 * NN b) : ∃ r, r < infB ∧ (NN r : Int) = (((NN a : Int) - (NN b : Int)).natAbs : Int) := by
  have ea := takenE_ge a
  have eb := takenE_ge b
  have la := takenE_le ha
  have lb := takenE_le hb
  have key : ∀ {a b : Nat}, a < infB → b < infB → NN b ≤ 2 * NN a → NN a ≤ 2 * NN b → takenE b ≤ takenE a → ∃ r, r < infB ∧ (NN r : Int) = (((NN a : Int) - (NN b : Int)).natAbs : Int) := by
    intro a b ha hb h1 h2 hle
    have ea := takenE_ge a
    have eb := takenE_ge b
    have lb := takenE_le hb
    obtain ⟨k, hk⟩ : ∃ k, k = (takenE b + 1074).toNat := ⟨_, rfl⟩
    obtain ⟨d, hd⟩ : ∃ d, (takenE a + 1074).toNat = k + d := ⟨(takenE a + 1074).toNat - k, by omega⟩
    have hp := Nat.two_pow_pos k
    have hNa : NN a = takenM a * 2 ^ d * 2 ^ k := by
      unfold NN
      rw [hd, Nat.mul_assoc, ← Nat.pow_add, Nat.add_comm d k]
    have hNb : NN b = takenM b * 2 ^ k := by
      unfold NN
      rw [← hk]
    obtain ⟨A, hA⟩ : ∃ A, A = takenM a * 2 ^ d := ⟨_, rfl⟩
    rw [← hA] at hNa
    have hbm : takenM b < 9007199254740992 := taken_lt
    obtain ⟨M, hM⟩ : ∃ M : Nat, (M : Int) = (((A : Int) - (takenM b : Int)).natAbs : Int) := ⟨_, rfl⟩
    have hMN : (((NN a : Int) - (NN b : Int)).natAbs : Int) = ((M * 2 ^ k : Nat) : Int) := by
      rw [hNa, hNb, Int.natCast_mul, Int.natCast_mul, ← Int.sub_mul, Int.natAbs_mul, Int.natAbs_natCast, Int.natCast_mul, Int.natCast_mul, hM]
    have hM53 : M < 9007199254740992 := by
      have h3 : A ≤ 2 * takenM b := by
        rw [hNa, hNb] at h2
        have : A * 2 ^ k ≤ 2 * takenM b * 2 ^ k := by rw [Nat.mul_assoc]; exact h2
        exact Nat.le_of_mul_le_mul_right this hp
      omega
    obtain ⟨r, hr1, hr2⟩ := rep hM53 k (by omega)
    refine ⟨r, hr1, ?_⟩
    rw [hMN]
    unfold NN
    rw [hr2]
  rcases Int.le_total (takenE b) (takenE a) with hle | hle
  · exact key ha hb h1 h2 hle
  · obtain ⟨r, hr1, hr2⟩ := key hb ha h2 h1 hle
    exact ⟨r, hr1, by rw [hr2]; omega⟩

/-- NumSterbenz: the difference is exact: added to b it is a -/
theorem sterbenz {a b : Nat} (ha : a < infB) (ha0 : 0 < a) (hb : b < infB) (hb0 : 0 < b) (h1 : ¬ fval (fadd a a) < fval b) (h2 : ¬ fval (fadd b b) < fval a) : fadd (fsub a b) b = a := by
  have n1 := NN_twice ha hb h1
  have n2 := NN_twice hb ha h2
  obtain ⟨r, hr1, hr2⟩ := diff_rep ha hb n1 n2
  have hsI : infB < signB := by decide
  have hwa : a = D.word false a := by unfold Format.word; simp
  have hwb : b = D.word false b := by unfold Format.word; simp
  have hb2 : b < 2 * signB := by omega
  have hnb : isN b = false := decide_eq_false (by rw [Nat.mod_eq_of_lt (by omega)]; omega)
  have hneg : fneg b = D.word true b := by
    unfold fneg
    rw [hnb, if_neg (by decide)]
    have := word_flip false b (by omega)
    rw [← hwb] at this
    exact this.symm
  have hsub : fval (fsub a b) = rounds ((NN a : Int) - (NN b : Int)) := by
    rw [fsub_eq hb2, hneg]
    have := val_add false true ha hb
    rw [← hwa, exact_NN, exact_NN] at this
    rw [this]
    congr 1
  obtain ⟨c, hc⟩ : ∃ c, c = fsub a b := ⟨_, rfl⟩
  rw [← hc] at hsub ⊢
  have hclt : c < 2 * signB := by rw [hc]; exact (fsub_lt a b).1
  obtain ⟨wc, lc⟩ := word_of hclt
  generalize decide (signB ≤ c) = s at wc
  obtain ⟨x, hx⟩ : ∃ x, x = c % signB := ⟨_, rfl⟩
  rw [← hx] at wc lc
  have hvc := word_val s lc
  rw [← wc, hsub] at hvc
  -- the difference's rung is r
  have hT : rounds ((NN a : Int) - (NN b : Int)) = if (NN a : Int) - (NN b : Int) < 0 then -(r : Int) else (r : Int) := by
    have hrr := rung_exact hr1
    have hNr : takenM r * 2 ^ (takenE r + 1074).toNat = ((NN a : Int) - (NN b : Int)).natAbs := by
      have : NN r = ((NN a : Int) - (NN b : Int)).natAbs := by omega
      exact this
    unfold rounds
    rw [← hNr, hrr]
  rw [hT] at hvc
  have hxr : x = r := by
    cases s <;> simp only [Bool.false_eq_true, if_false, if_true] at hvc <;> split at hvc <;> omega
  have hex : exact s x = (NN a : Int) - (NN b : Int) := by
    rw [exact_NN, hxr]
    by_cases hr0 : r = 0
    · have hN0 : NN r = 0 := by
        rw [hr0]
        unfold NN
        rw [(takenM_zero 0).2 rfl, Nat.zero_mul]
      rw [hN0] at hr2 ⊢
      split <;> omega
    · rw [hxr] at hvc
      cases s <;> simp only [Bool.false_eq_true, if_false, if_true] at hvc ⊢ <;> split at hvc <;> omega
  have hsum : fval (fadd c b) = (a : Int) := by
    have h3 := val_add s false (hxr ▸ hr1 : x < infB) hb
    rw [← wc, ← hwb, hex, exact_NN] at h3
    rw [h3]
    simp only [Bool.false_eq_true, if_false]
    rw [show (NN a : Int) - (NN b : Int) + (NN b : Int) = (NN a : Int) by omega]
    have := rounds_exact false ha
    rw [exact_NN] at this
    simpa using this
  unfold fval at hsum
  split at hsum
  · omega
  · rename_i hlt
    rw [Nat.mod_eq_of_lt (by omega)] at hsum
    omega
end Go.Proofs.YtiidkgdlngcpgaaGreatDoor

namespace Go.Proofs.YtiidkgdlngcpgaaGreatDoor
open Ieee

theorem exact_mono {s t : Bool} {x y : Nat} (hx : x < infB) (hy : y < infB) (h : fval (D.word s x) ≤ fval (D.word t y)) : exact s x ≤ exact t y := by
  have hI : infB < signB := by decide
  rw [word_val s (by omega), word_val t (by omega)] at h
  rw [exact_NN, exact_NN]
  have h1 := NN_le hx hy
  have h2 := NN_le hy hx
  have z : ∀ {x : Nat}, x = 0 → NN x = 0 := by
    rintro x rfl
    unfold NN
    rw [(takenM_zero 0).2 rfl, Nat.zero_mul]
  cases s
  · cases t
    · simp only [Bool.false_eq_true, if_false] at h ⊢
      have := h1.2 (by omega)
      omega
    · simp only [Bool.false_eq_true, if_false, if_true] at h ⊢
      have hx0 : x = 0 := by omega
      have hy0 : y = 0 := by omega
      rw [z hx0, z hy0]
      decide
  · cases t
    · simp only [Bool.false_eq_true, if_false, if_true] at h ⊢
      omega
    · simp only [if_true] at h ⊢
      have := h2.2 (by omega)
      omega

/-- sums of finite numbers keep the order of values -/
theorem add_rises {a b c : Nat} (ha : a < 2 * signB) (hb : b < 2 * signB) (hc : c < 2 * signB) (fa : a % signB < infB) (fb : b % signB < infB) (fc : c % signB < infB) (h : fval a ≤ fval b) : fval (fadd a c) ≤ fval (fadd b c) := by
  obtain ⟨wa, la⟩ := word_of ha
  obtain ⟨wb, lb⟩ := word_of hb
  obtain ⟨wc, lc⟩ := word_of hc
  obtain ⟨s, hs⟩ : ∃ s, s = decide (signB ≤ a) := ⟨_, rfl⟩
  obtain ⟨t, ht⟩ : ∃ t, t = decide (signB ≤ b) := ⟨_, rfl⟩
  obtain ⟨u, hu⟩ : ∃ u, u = decide (signB ≤ c) := ⟨_, rfl⟩
  rw [← hs] at wa
  rw [← ht] at wb
  rw [← hu] at wc
  have h1 := val_add s u fa fc
  have h2 := val_add t u fb fc
  rw [← wa, ← wc] at h1
  rw [← wb, ← wc] at h2
  rw [h1, h2]
  rw [wa, wb] at h
  have := exact_mono fa fb h
  exact rounds_mono (by omega)
end Go.Proofs.YtiidkgdlngcpgaaGreatDoor

namespace Go.Proofs.YtiidkgdlngcpgaaGreatDoor
open Ieee

def fclass (a : Nat) : Int := if infB < a % signB then 0 else if a % signB = infB then 1 else if a % signB = 0 then 2 else if a % signB < 4503599627370496 then 3 else 4

theorem read_sign {a : Nat} (h : a < 2 * signB) : (D.read a).neg = decide (signB ≤ a) := by
  obtain ⟨h1, h2⟩ := word_of h
  generalize decide (signB ≤ a) = s at h1 ⊢
  generalize a % signB = r at h1 h2
  subst h1
  rw [read_word _ _ h2]
  split
  · rfl
  split
  · rfl
  split <;> rfl

def fmin (a b : Nat) : Nat := if isN a || isN b then nanB else match D.order a b with
  | some .lt => a
  | some .gt => b
  | _ => if (D.read a).neg then a else b
def fmax (a b : Nat) : Nat := if isN a || isN b then nanB else match D.order a b with
  | some .lt => b
  | some .gt => a
  | _ => if (D.read a).neg then b else a

theorem rOrder_le (a b : Nat) : rOrder a b ≤ 0 ↔ rrank a ≤ rrank b := by
  unfold rOrder
  split
  · constructor <;> intro _ <;> omega
  · split
    · constructor <;> intro _ <;> omega
    · constructor <;> intro _ <;> omega
theorem rOrder_ge (a b : Nat) : 0 ≤ rOrder a b ↔ rrank b ≤ rrank a := by
  unfold rOrder
  split
  · constructor <;> intro _ <;> omega
  · split
    · constructor <;> intro _ <;> omega
    · constructor <;> intro _ <;> omega

/-- how values and ranks go together -/
theorem rank_cases {a b : Nat} (ha : a < 2 * signB) (hb : b < 2 * signB) (h1 : isN a = false) (h2 : isN b = false) :
    (fval a < fval b → rrank a < rrank b) ∧ (fval b < fval a → rrank b < rrank a) ∧ (fval a = fval b → signB ≤ a → rrank a ≤ rrank b) ∧ (fval a = fval b → ¬ signB ≤ a → rrank b ≤ rrank a) ∧ (rrank a = rrank b → a = b) := by
  unfold rrank
  rw [h1, h2]
  simp only [Bool.false_eq_true, if_false]
  unfold fval
  by_cases sa : signB ≤ a
  · by_cases sb : signB ≤ b
    · rw [if_pos sa, if_pos sb, if_pos sa, if_pos sb]
      unfold signB at *
      refine ⟨?_, ?_, ?_, ?_, ?_⟩ <;> intros <;> omega
    · rw [if_pos sa, if_neg sb, if_pos sa, if_neg sb]
      unfold signB at *
      refine ⟨?_, ?_, ?_, ?_, ?_⟩ <;> intros <;> omega
  · by_cases sb : signB ≤ b
    · rw [if_neg sa, if_pos sb, if_neg sa, if_pos sb]
      unfold signB at *
      refine ⟨?_, ?_, ?_, ?_, ?_⟩ <;> intros <;> omega
    · rw [if_neg sa, if_neg sb, if_neg sa, if_neg sb]
      unfold signB at *
      refine ⟨?_, ?_, ?_, ?_, ?_⟩ <;> intros <;> omega

theorem fmin_eq {a b : Nat} (ha : a < 2 * signB) (hb : b < 2 * signB) : fmin a b = rMin a b := by
  unfold fmin rMin
  by_cases h1 : isN a = true
  · simp [h1]
  by_cases h2 : isN b = true
  · simp [h2]
  rw [Bool.not_eq_true] at h1 h2
  obtain ⟨r1, r2, r3, r4, r5⟩ := rank_cases ha hb h1 h2
  have hle := rOrder_le a b
  have hn : (false || false) ≠ true := fun e => nomatch e
  rw [order_val ha hb h1 h2, h1, h2, read_sign ha, if_neg hn, if_neg hn]
  rcases Int.lt_trichotomy (fval a) (fval b) with h | h | h
  · rw [Int.compare_eq_lt.2 h, if_pos (hle.2 (Nat.le_of_lt (r1 h)))]
  · rw [Int.compare_eq_eq.2 h]
    show (if decide (signB ≤ a) = true then a else b) = _
    by_cases d : signB ≤ a
    · rw [decide_eq_true d, if_pos rfl, if_pos (hle.2 (r3 h d))]
    · have hd : decide (signB ≤ a) ≠ true := fun e => d (of_decide_eq_true e)
      rw [if_neg hd]
      by_cases c : rOrder a b ≤ 0
      · rw [if_pos c]
        exact (r5 (Nat.le_antisymm (hle.1 c) (r4 h d))).symm
      · rw [if_neg c]
  · have hg : ¬ rOrder a b ≤ 0 := fun c => by
      have := hle.1 c
      have := r2 h
      omega
    rw [Int.compare_eq_gt.2 h]
    exact (if_neg hg).symm

theorem fmax_eq {a b : Nat} (ha : a < 2 * signB) (hb : b < 2 * signB) : fmax a b = rMax a b := by
  unfold fmax rMax
  by_cases h1 : isN a = true
  · simp [h1]
  by_cases h2 : isN b = true
  · simp [h2]
  rw [Bool.not_eq_true] at h1 h2
  obtain ⟨r1, r2, r3, r4, r5⟩ := rank_cases ha hb h1 h2
  have hle := rOrder_ge a b
  have hn : (false || false) ≠ true := fun e => nomatch e
  rw [order_val ha hb h1 h2, h1, h2, read_sign ha, if_neg hn, if_neg hn]
  rcases Int.lt_trichotomy (fval a) (fval b) with h | h | h
  · have hg : ¬ 0 ≤ rOrder a b := fun c => by
      have := hle.1 c
      have := r1 h
      omega
    rw [Int.compare_eq_lt.2 h]
    exact (if_neg hg).symm
  · rw [Int.compare_eq_eq.2 h]
    show (if decide (signB ≤ a) = true then b else a) = _
    by_cases d : signB ≤ a
    · rw [decide_eq_true d, if_pos rfl]
      by_cases c : 0 ≤ rOrder a b
      · rw [if_pos c]
        exact (r5 (Nat.le_antisymm (r3 h d) (hle.1 c))).symm
      · rw [if_neg c]
    · have hd : decide (signB ≤ a) ≠ true := fun e => d (of_decide_eq_true e)
      rw [if_neg hd, if_pos (hle.2 (r4 h d))]
  · rw [Int.compare_eq_gt.2 h, if_pos (hle.2 (Nat.le_of_lt (r2 h)))]

/-- NumPairs -/
theorem pairs {a b : Nat} (ha : a < 2 * signB) (hb : b < 2 * signB) (h1 : isN a = false) (h2 : isN b = false) :
    ((fmin a b = a ∧ fmax a b = b) ∨ (fmin a b = b ∧ fmax a b = a)) ∧ forder (fmin a b) (fmax a b) ≤ 0 ∧ fmin b a = fmin a b ∧ fmax b a = fmax a b := by
  rw [fmin_eq ha hb, fmax_eq ha hb, fmin_eq hb ha, fmax_eq hb ha]
  have l1 := rOrder_le a b
  have l2 := rOrder_ge a b
  have l3 := rOrder_le b a
  have l4 := rOrder_ge b a
  have inj := (rank_cases ha hb h1 h2).2.2.2.2
  unfold rMin rMax
  rw [h1, h2]
  simp only [Bool.or_self, Bool.false_eq_true, if_false]
  rcases Nat.lt_trichotomy (rrank a) (rrank b) with h | h | h
  · rw [if_pos (l1.2 (by omega)), if_neg (mt l2.1 (by omega)), if_neg (mt l3.1 (by omega)), if_pos (l4.2 (by omega)), forder_eq ha hb]
    exact ⟨.inl ⟨rfl, rfl⟩, l1.2 (by omega), rfl, rfl⟩
  · have e := inj h
    subst e
    rw [forder_eq (by split <;> assumption) (by split <;> assumption)]
    have := l1.2 (Nat.le_refl _)
    have := l2.2 (Nat.le_refl _)
    simp only [ite_self]
    exact ⟨.inl ⟨trivial, trivial⟩, l1.2 (Nat.le_refl _), trivial, trivial⟩
  · rw [if_neg (mt l1.1 (by omega)), if_pos (l2.2 (by omega)), if_pos (l3.2 (by omega)), if_neg (mt l4.1 (by omega)), forder_eq hb ha]
    exact ⟨.inr ⟨rfl, rfl⟩, l3.2 (by omega), rfl, rfl⟩

theorem class_nan (a : Nat) : fclass a = 0 ↔ isN a = true := by
  unfold fclass isN
  by_cases h : infB < a % signB
  · simp [h]
  · rw [if_neg h, decide_eq_false h]
    constructor
    · intro e
      split at e
      · cases e
      · split at e
        · cases e
        · split at e <;> cases e
    · intro e
      cases e
theorem class_zero (a : Nat) : fclass a = 2 ↔ a % signB = 0 := by
  unfold fclass infB
  constructor
  · intro e
    repeat' split at e
    all_goals first | omega | assumption
  · intro e
    rw [if_neg (by omega), if_neg (by omega), if_pos e]
theorem class_plain (a : Nat) : fclass a = 4 ↔ 4503599627370496 ≤ a % signB ∧ a % signB < infB := by
  unfold fclass infB
  constructor
  · intro e
    repeat' split at e
    all_goals first | omega | exact ⟨by omega, by omega⟩
  · rintro ⟨e1, e2⟩
    rw [if_neg (by omega), if_neg (by omega), if_neg (by omega), if_neg (by omega)]

/-- NumLines' last -/
theorem lines_less {a b : Nat} (ha : a < 2 * signB) (hb : b < 2 * signB) (h1 : isN a = false) (h2 : isN b = false) :
    (fless a b = (decide (forder a b < 0) && !(decide (a % signB = 0) && decide (b % signB = 0)))) ∧ (fequal a b = (decide (forder a b = 0) || (decide (a % signB = 0) && decide (b % signB = 0)))) := by
  rw [fless_val ha hb, fequal_val ha hb, h1, h2, forder_eq ha hb]
  have l1 := rOrder_le a b
  have l2 := rOrder_ge a b
  have e1 : rOrder a b < 0 ↔ rrank a < rrank b := by omega
  have e2 : rOrder a b = 0 ↔ rrank a = rrank b := by omega
  simp only [e1, e2, Bool.not_false, Bool.true_and]
  have k1 : fval a < fval b ↔ (rrank a < rrank b ∧ ¬ (a % signB = 0 ∧ b % signB = 0)) := by
    unfold rrank
    rw [h1, h2]
    simp only [Bool.false_eq_true, if_false]
    unfold fval
    by_cases sa : signB ≤ a
    · by_cases sb : signB ≤ b
      · rw [if_pos sa, if_pos sb, if_pos sa, if_pos sb]
        unfold signB at *
        omega
      · rw [if_pos sa, if_neg sb, if_pos sa, if_neg sb]
        unfold signB at *
        omega
    · by_cases sb : signB ≤ b
      · rw [if_neg sa, if_pos sb, if_neg sa, if_pos sb]
        unfold signB at *
        omega
      · rw [if_neg sa, if_neg sb, if_neg sa, if_neg sb]
        unfold signB at *
        omega
  have k2 : fval a = fval b ↔ (rrank a = rrank b ∨ (a % signB = 0 ∧ b % signB = 0)) := by
    unfold rrank
    rw [h1, h2]
    simp only [Bool.false_eq_true, if_false]
    unfold fval
    by_cases sa : signB ≤ a
    · by_cases sb : signB ≤ b
      · rw [if_pos sa, if_pos sb, if_pos sa, if_pos sb]
        unfold signB at *
        omega
      · rw [if_pos sa, if_neg sb, if_pos sa, if_neg sb]
        unfold signB at *
        omega
    · by_cases sb : signB ≤ b
      · rw [if_neg sa, if_pos sb, if_neg sa, if_pos sb]
        unfold signB at *
        omega
      · rw [if_neg sa, if_neg sb, if_neg sa, if_neg sb]
        unfold signB at *
        omega
  simp only [k1, k2, Bool.decide_and, Bool.decide_or, decide_not, Bool.not_and]
  exact ⟨trivial, trivial⟩
end Go.Proofs.YtiidkgdlngcpgaaGreatDoor

namespace Go.Proofs.YtiidkgdlngcpgaaGreatDoor
open Ieee

/-- is it finite? -/
def Fin_ (a : Nat) : Prop := a < 2 * signB ∧ a % signB < infB
/-- its exact value, in units of 2^-1074 -/
def ex (a : Nat) : Int := exact (decide (signB ≤ a)) (a % signB)
/-- one, in such units -/
def Un : Nat := 2 ^ 1074
theorem Un_def : ∃ e : Nat, e = 1074 ∧ Un = 2 ^ e := by
  unfold Un
  exact ⟨_, rfl, rfl⟩
theorem Un_pos : 0 < Un := by
  obtain ⟨e, _, hU⟩ := Un_def
  rw [hU]
  exact Nat.two_pow_pos e

theorem inf_sign : infB < signB := by decide
theorem Fin_.lt {a : Nat} (h : Fin_ a) : a < 2 * signB := h.1
theorem Fin_.no {a : Nat} (h : Fin_ a) : isN a = false := decide_eq_false (by have := h.2; omega)
theorem fin_word (s : Bool) {x : Nat} (h : x < infB) : Fin_ (D.word s x) := ⟨word_lt2 s (Nat.lt_trans h inf_sign), by rw [word_mod s (Nat.lt_trans h inf_sign)]; exact h⟩
theorem sign_word (s : Bool) {x : Nat} (h : x < signB) : decide (signB ≤ D.word s x) = s := by
  unfold Format.word
  rw [D_sw]
  unfold signB at *
  cases s
  · simp only [Bool.false_eq_true, if_false]
    exact decide_eq_false (by omega)
  · simp only [if_true]
    exact decide_eq_true (by omega)
theorem ex_word (s : Bool) {x : Nat} (h : x < infB) : ex (D.word s x) = if s = true then -(NN x : Int) else (NN x : Int) := by
  unfold ex
  rw [word_mod s (Nat.lt_trans h inf_sign), sign_word s (Nat.lt_trans h inf_sign), exact_NN]
theorem fval_rounds {a : Nat} (h : Fin_ a) : fval a = rounds (ex a) := by
  obtain ⟨wa, la⟩ := word_of h.1
  unfold ex
  rw [rounds_exact _ h.2]
  generalize decide (signB ≤ a) = s at wa ⊢
  have := word_val s la
  rw [← wa] at this
  exact this
theorem ex_le {a b : Nat} (ha : Fin_ a) (hb : Fin_ b) : fval a ≤ fval b ↔ ex a ≤ ex b := by
  constructor
  · intro h
    obtain ⟨wa, la⟩ := word_of ha.1
    obtain ⟨wb, lb⟩ := word_of hb.1
    unfold ex
    refine exact_mono ha.2 hb.2 ?_
    rw [← wa, ← wb]
    exact h
  · intro h
    rw [fval_rounds ha, fval_rounds hb]
    exact rounds_mono h
theorem ex_lt {a b : Nat} (ha : Fin_ a) (hb : Fin_ b) : fval a < fval b ↔ ex a < ex b := by
  have := ex_le hb ha
  omega
theorem ex_eq {a b : Nat} (ha : Fin_ a) (hb : Fin_ b) : fval a = fval b ↔ ex a = ex b := by
  have := ex_le hb ha
  have := ex_le ha hb
  omega
theorem fval_add {a b : Nat} (ha : Fin_ a) (hb : Fin_ b) : fval (fadd a b) = rounds (ex a + ex b) := by
  obtain ⟨wa, la⟩ := word_of ha.1
  obtain ⟨wb, lb⟩ := word_of hb.1
  have := val_add (decide (signB ≤ a)) (decide (signB ≤ b)) ha.2 hb.2
  rw [← wa, ← wb] at this
  exact this
theorem fin_neg {a : Nat} (ha : Fin_ a) : Fin_ (fneg a) ∧ ex (fneg a) = -ex a := by
  obtain ⟨wa, la⟩ := word_of ha.1
  have hn : fneg a = D.word (!decide (signB ≤ a)) (a % signB) := by
    unfold fneg
    rw [ha.no, if_neg (by decide), word_flip _ _ la, ← wa]
  rw [hn]
  refine ⟨fin_word _ ha.2, ?_⟩
  rw [ex_word _ ha.2]
  unfold ex
  rw [exact_NN]
  cases decide (signB ≤ a) <;> simp
theorem fval_sub {a b : Nat} (ha : Fin_ a) (hb : Fin_ b) : fval (fsub a b) = rounds (ex a - ex b) := by
  obtain ⟨h1, h2⟩ := fin_neg hb
  rw [fsub_eq hb.1, fval_add ha h1, h2]
  rfl

/-- a value that is a number's -/
def Rep (T : Int) : Prop := ∃ r, r < infB ∧ (NN r : Int) = (T.natAbs : Int)
theorem Rep.of {m : Nat} {T : Int} (hm : m < 9007199254740992) {k : Nat} (hk : k ≤ 2045) (h : T.natAbs = m * 2 ^ k) : Rep T := by
  obtain ⟨r, h1, h2⟩ := rep hm k hk
  refine ⟨r, h1, ?_⟩
  unfold NN
  rw [h2, h]
theorem ex_rep {a : Nat} (h : Fin_ a) : Rep (ex a) := by
  refine ⟨a % signB, h.2, ?_⟩
  unfold ex
  rw [exact_NN]
  split <;> omega
theorem Rep.neg {T : Int} (h : Rep T) : Rep (-T) := by
  obtain ⟨r, h1, h2⟩ := h
  exact ⟨r, h1, by rw [Int.natAbs_neg]; exact h2⟩
theorem NN_zero : NN 0 = 0 := by
  unfold NN
  rw [(takenM_zero 0).2 rfl, Nat.zero_mul]
theorem rounds_rep {T : Int} {r : Nat} (h1 : r < infB) (h2 : (NN r : Int) = (T.natAbs : Int)) : rounds T = if T < 0 then -(r : Int) else (r : Int) := by
  have hr := rung_exact h1
  have h3 : takenM r * 2 ^ (takenE r + 1074).toNat = T.natAbs := by
    have : NN r = T.natAbs := by omega
    exact this
  unfold rounds
  rw [← h3, hr]
/-- a word that is a number's value, rounded, is that number -/
theorem ex_exact {c : Nat} {T : Int} (hc : c < 2 * signB) (h : fval c = rounds T) (hT : Rep T) : Fin_ c ∧ ex c = T := by
  obtain ⟨r, h1, h2⟩ := hT
  rw [rounds_rep h1 h2] at h
  obtain ⟨wc, lc⟩ := word_of hc
  have hI := inf_sign
  have hx : c % signB = r := by
    unfold fval at h
    split at h <;> split at h <;> omega
  refine ⟨⟨hc, by omega⟩, ?_⟩
  unfold ex
  rw [exact_NN, hx]
  by_cases h0 : r = 0
  · rw [h0, NN_zero] at h2 ⊢
    split <;> omega
  · unfold fval at h
    by_cases d : signB ≤ c
    · rw [if_pos d, hx] at h
      rw [decide_eq_true d, if_pos rfl]
      split at h <;> omega
    · rw [if_neg d, hx] at h
      rw [decide_eq_false d, if_neg (by decide)]
      split at h <;> omega

/-! ### Whole numbers -/
theorem toU (s : Bool) (n : Nat) : D.nearest s n 0 = D.nearest s (n * Un) (-1074) := by
  by_cases h : n = 0
  · subst h
    rw [Nat.zero_mul, nearest_none, nearest_none]
  · obtain ⟨e, he, hU⟩ := Un_def
    rw [hU]
    exact (nearest_scale s (by omega) (by omega)).symm
theorem nearest_rep (s : Bool) {n r : Nat} (h1 : r < infB) (h2 : NN r = n * Un) : D.nearest s n 0 = D.word s r := by
  rw [toU, ← h2, (nearest_is s _ _).1]
  have := rung_exact h1
  unfold NN
  rw [this]
theorem fof_exact {n : Int} (h : Rep (n * (Un : Int))) : Fin_ (fof n) ∧ ex (fof n) = n * (Un : Int) := by
  obtain ⟨r, h1, h2⟩ := h
  have hU := Un_pos
  rw [Int.natAbs_mul, Int.natAbs_natCast] at h2
  have hf : fof n = D.word (decide (n < 0)) r := nearest_rep _ h1 (by exact_mod_cast h2)
  rw [hf]
  refine ⟨fin_word _ h1, ?_⟩
  rw [ex_word _ h1]
  by_cases d : n < 0
  · rw [decide_eq_true d, if_pos rfl, h2, Int.natCast_mul, show ((n.natAbs : Nat) : Int) = -n by omega, Int.neg_mul, Int.neg_neg]
  · rw [decide_eq_false d, if_neg (by decide), h2, Int.natCast_mul, show ((n.natAbs : Nat) : Int) = n by omega]
theorem rep_whole {n : Int} (h : n.natAbs < 9007199254740992) : Rep (n * (Un : Int)) :=
  Rep.of (m := n.natAbs) h (k := 1074) (by decide) (by rw [Int.natAbs_mul, Int.natAbs_natCast]; rfl)

/-- the floor of a finite number -/
theorem floor_ex {a : Nat} (ha : Fin_ a) : Fin_ (ffloor a) ∧ ∃ n : Int, ex (ffloor a) = n * (Un : Int) ∧ n * (Un : Int) ≤ ex a ∧ ex a < n * (Un : Int) + (Un : Int) ∧ (ex a = n * (Un : Int) → ffloor a = a) := by
  obtain ⟨wa, la⟩ := word_of ha.1
  have hfin := ha.2
  obtain ⟨s, hs⟩ : ∃ s, s = decide (signB ≤ a) := ⟨_, rfl⟩
  obtain ⟨x, hx⟩ : ∃ x, x = a % signB := ⟨_, rfl⟩
  rw [← hs, ← hx] at wa
  rw [← hx] at la hfin
  have hexa : ex a = if s = true then -(NN x : Int) else (NN x : Int) := by
    rw [wa, ex_word s hfin]
  have hf : ffloor a = D.nearest s (Toward.down.cut s (takenM x <<< (takenE x).toNat) (-takenE x).toNat) 0 := by
    unfold ffloor
    rw [ha.no, if_neg (by decide), show D.read a = D.read (D.word s x) by rw [← wa], read_num s hfin]
    rfl
  rw [cut_down] at hf
  have hge := takenE_ge x
  have hUp := Un_pos
  by_cases he : 0 ≤ takenE x
  · rw [show (-takenE x).toNat = 0 by omega, Nat.shiftLeft_eq] at hf
    have h1 : floorN s (takenM x * 2 ^ (takenE x).toNat) 0 = takenM x * 2 ^ (takenE x).toNat := by
      unfold floorN
      rw [Nat.pow_zero, Nat.div_one, Nat.mod_one, if_neg (by simp)]
      rfl
    have h2 : NN x = takenM x * 2 ^ (takenE x).toNat * Un := by
      obtain ⟨e, he, hU⟩ := Un_def
      rw [hU]
      unfold NN
      rw [Nat.mul_assoc, ← Nat.pow_add]
      congr 2
      omega
    rw [h1, nearest_rep s hfin h2, ← wa] at hf
    rw [hf]
    refine ⟨ha, (if s = true then -((takenM x * 2 ^ (takenE x).toNat : Nat) : Int) else ((takenM x * 2 ^ (takenE x).toNat : Nat) : Int)), ?_⟩
    have h3 : ex a = (if s = true then -((takenM x * 2 ^ (takenE x).toNat : Nat) : Int) else ((takenM x * 2 ^ (takenE x).toNat : Nat) : Int)) * (Un : Int) := by
      rw [hexa, h2]
      cases s
      · simp only [Bool.false_eq_true, if_false]
        exact Int.natCast_mul _ _
      · simp only [if_true]
        rw [Int.neg_mul, Int.natCast_mul (takenM x * 2 ^ (takenE x).toNat)]
    exact ⟨h3, by omega, by omega, fun _ => rfl⟩
  · rw [show (takenE x).toNat = 0 by omega, Nat.shiftLeft_zero] at hf
    obtain ⟨k, hk⟩ : ∃ k : Nat, k = (-takenE x).toNat := ⟨_, rfl⟩
    rw [← hk] at hf
    have hk1 : 1 ≤ k := by omega
    obtain ⟨P, hP⟩ : ∃ P : Nat, P = 2 ^ (1074 - k) := ⟨_, rfl⟩
    have hPp : 0 < P := by rw [hP]; exact Nat.two_pow_pos _
    have hU : Un = 2 ^ k * P := by
      obtain ⟨e, he, hE⟩ := Un_def
      rw [hE, hP, ← Nat.pow_add]
      congr 1
      omega
    have hN : NN x = takenM x * P := by
      unfold NN
      rw [hP, show (takenE x + 1074).toNat = 1074 - k by omega]
    obtain ⟨G, hG⟩ : ∃ G : Nat, G = 2 ^ k := ⟨_, rfl⟩
    have hG2 : 2 ≤ G := by
      rw [hG]
      calc 2 = 2 ^ 1 := rfl
        _ ≤ 2 ^ k := Nat.pow_le_pow_right (by decide) hk1
    have hm53 : takenM x < 9007199254740992 := taken_lt
    obtain ⟨m, hm⟩ : ∃ m, m = takenM x := ⟨_, rfl⟩
    rw [← hm] at hf hN hm53
    have hdm := Nat.div_add_mod m G
    have hml := Nat.mod_lt m (show 0 < G by omega)
    have hq : m / G ≤ m / 2 := Nat.div_le_div_left hG2 (by decide)
    obtain ⟨n, hn⟩ : ∃ n, n = floorN s m k := ⟨_, rfl⟩
    rw [← hn] at hf
    unfold floorN at hn
    rw [← hG] at hn hU
    have hn53 : n < 9007199254740992 := by
      rw [hn]
      split <;> omega
    obtain ⟨u, hu, hU2⟩ := Un_def
    obtain ⟨r, hr1, hr2⟩ := rep hn53 u (by omega)
    have hr3 : NN r = n * Un := by
      rw [hU2]
      exact hr2
    rw [nearest_rep s hr1 hr3] at hf
    rw [hf]
    have hexf := ex_word s hr1
    refine ⟨fin_word s hr1, (if s = true then -(n : Int) else (n : Int)), ?_⟩
    have hnU : (NN r : Int) = (n : Int) * (Un : Int) := by rw [hr3, Int.natCast_mul]
    obtain ⟨q, hqd⟩ : ∃ q, q = m / G := ⟨_, rfl⟩
    obtain ⟨t, htd⟩ : ∃ t, t = m % G := ⟨_, rfl⟩
    rw [← hqd, ← htd] at hdm hn
    rw [← htd] at hml
    have hNx : (NN x : Int) = (q : Int) * (Un : Int) + (t : Int) * (P : Int) := by
      rw [hN, hU, ← hdm, Nat.add_mul, Nat.mul_comm G q, Nat.mul_assoc]
      push_cast
      rfl
    have htP : (t : Int) * (P : Int) < (Un : Int) := by
      rw [hU]
      have : t * P < G * P := Nat.mul_lt_mul_of_pos_right hml hPp
      exact_mod_cast this
    have htP0 : 0 ≤ (t : Int) * (P : Int) := Int.mul_nonneg (by omega) (by omega)
    have htP1 : (t : Int) * (P : Int) = 0 → t = 0 := by
      intro e
      rcases Int.mul_eq_zero.1 e with e | e <;> omega
    obtain ⟨R, hR⟩ : ∃ R : Int, R = (t : Int) * (P : Int) := ⟨_, rfl⟩
    rw [← hR] at hNx htP htP0 htP1
    obtain ⟨u, hu⟩ : ∃ u : Int, u = (Un : Int) := ⟨_, rfl⟩
    rw [← hu] at hNx htP hnU ⊢
    have same : t = 0 → D.word s r = a := by
      intro h0
      rw [h0] at hn
      rw [if_neg (by simp)] at hn
      have hnq : n = q := by omega
      rw [wa]
      congr 1
      have : NN r = NN x := by
        have hR0 : R = 0 := by rw [hR, h0]; simp
        rw [hR0] at hNx
        rw [hnq] at hnU
        omega
      have h1 := (NN_le hr1 hfin).1 (by omega)
      have h2 := (NN_le hfin hr1).1 (by omega)
      omega
    cases s
    · simp only [Bool.false_eq_true, if_false] at hexa hexf ⊢
      rw [if_neg (by simp)] at hn
      have hnq : n = q := by omega
      rw [hnq] at hnU ⊢
      refine ⟨by rw [hexf]; exact hnU, by omega, by omega, fun e => ?_⟩
      have := htP1 (by omega)
      exact same this
    · simp only [if_true] at hexa hexf ⊢
      by_cases h0 : t = 0
      · rw [h0, if_neg (by simp)] at hn
        have hnq : n = q := by omega
        rw [hnq] at hnU ⊢
        have hR0 : R = 0 := by rw [hR, h0]; simp
        rw [Int.neg_mul]
        exact ⟨by rw [hexf, hnU], by omega, by omega, fun _ => same h0⟩
      · rw [if_pos ⟨rfl, h0⟩] at hn
        have hnq : (n : Int) = (q : Int) + 1 := by omega
        rw [Int.neg_mul]
        have hnu : (n : Int) * u = (q : Int) * u + u := by rw [hnq, Int.add_mul, Int.one_mul]
        refine ⟨by rw [hexf, hnU], by omega, by omega, fun e => ?_⟩
        exact absurd (htP1 (by omega)) h0

/-- the whole number that a word is, if it is one (of any size) -/
theorem whole_iff {a : Nat} (ha : Fin_ a) : fval a = fval (ffloor a) ↔ ∃ n : Int, ex a = n * (Un : Int) := by
  obtain ⟨hf, n, h1, h2, h3, h4⟩ := floor_ex ha
  have hU := Un_pos
  rw [ex_eq ha hf, h1]
  constructor
  · intro e
    exact ⟨n, e⟩
  · rintro ⟨k, hk⟩
    rw [hk] at h2 h3 ⊢
    obtain ⟨u, hu⟩ : ∃ u : Int, u = (Un : Int) := ⟨_, rfl⟩
    rw [← hu] at h2 h3 ⊢
    have hu0 : 0 < u := by omega
    have h5 : (k - n) * u < 1 * u := by rw [Int.sub_mul, Int.one_mul]; omega
    have h6 : 0 * u ≤ (k - n) * u := by rw [Int.sub_mul, Int.zero_mul]; omega
    have h7 := Int.lt_of_mul_lt_mul_right h5 (by omega)
    have h8 := Int.le_of_mul_le_mul_right h6 hu0
    rw [show k = n by omega]
end Go.Proofs.YtiidkgdlngcpgaaGreatDoor

namespace Go.Proofs.YtiidkgdlngcpgaaGreatDoor
open Ieee

def c63 : Nat := 4890909195324358656
def c63n : Nat := 14114281232179134464
def oneB : Nat := 4607182418800017408

/-- 'a >= b' -/
def fgeq (a b : Nat) : Bool := match D.order a b with
  | some .eq => true
  | some .gt => true
  | _ => false
theorem fgeq_val {a b : Nat} (ha : a < 2 * signB) (hb : b < 2 * signB) : fgeq a b = (!isN a && !isN b && decide (fval b ≤ fval a)) := by
  unfold fgeq
  by_cases h : isN a = true ∨ isN b = true
  · rw [order_nan ha hb h]
    rcases h with h | h <;> simp [h]
  · rw [not_or, Bool.not_eq_true, Bool.not_eq_true] at h
    rw [order_val ha hb h.1 h.2, h.1, h.2]
    rcases Int.lt_trichotomy (fval a) (fval b) with c | c | c
    · rw [Int.compare_eq_lt.2 c, decide_eq_false (by omega)]
      rfl
    · rw [Int.compare_eq_eq.2 c, decide_eq_true (by omega)]
      rfl
    · rw [Int.compare_eq_gt.2 c, decide_eq_true (by omega)]
      rfl

/-- the whole number that a word is, as the code tells it -/
def fint (a : Nat) : Option Int := if fequal a (ffloor a) && (fgeq a c63n && fless a c63) then floatToIntVal .f64 a .i64 else none

theorem pow2_ex (n : Nat) (h : n ≤ 1023) : Fin_ ((1023 + n) * 4503599627370496) ∧ ex ((1023 + n) * 4503599627370496) = ((2 ^ n : Nat) : Int) * (Un : Int) := by
  have c : ¬ (1023 + n) * 4503599627370496 < 4503599627370496 := by omega
  have hlt : (1023 + n) * 4503599627370496 < infB := by unfold infB; omega
  have e1 : takenM ((1023 + n) * 4503599627370496) = 4503599627370496 := by
    unfold takenM
    rw [if_neg c, Nat.mul_mod_left]
  have e2 : takenE ((1023 + n) * 4503599627370496) = (n : Int) - 52 := by
    unfold takenE
    rw [if_neg c, Nat.mul_div_cancel _ (by decide)]
    omega
  have hw : (1023 + n) * 4503599627370496 = D.word false ((1023 + n) * 4503599627370496) := by unfold Format.word; simp
  rw [hw]
  refine ⟨fin_word false hlt, ?_⟩
  rw [ex_word false hlt]
  simp only [Bool.false_eq_true, if_false]
  obtain ⟨e, he, hU⟩ := Un_def
  rw [hU]
  unfold NN
  rw [e1, e2, ← Int.natCast_mul, ← Nat.pow_add, show (4503599627370496 : Nat) = 2 ^ 52 by decide, ← Nat.pow_add]
  congr 2
  omega
theorem one_ex : Fin_ oneB ∧ ex oneB = (Un : Int) := by
  have := pow2_ex 0 (by decide)
  rw [Nat.pow_zero] at this
  refine ⟨this.1, this.2.trans (by simp)⟩
theorem c63_ex : Fin_ c63 ∧ ex c63 = ((2 ^ 63 : Nat) : Int) * (Un : Int) := pow2_ex 63 (by decide)
theorem c63n_ex : Fin_ c63n ∧ ex c63n = -(((2 ^ 63 : Nat) : Int) * (Un : Int)) := by
  have h := fin_neg c63_ex.1
  rw [c63_ex.2] at h
  have : fneg c63 = c63n := by decide
  rw [this] at h
  exact h

theorem mulU_le {a b : Int} : a * (Un : Int) ≤ b * (Un : Int) ↔ a ≤ b := by
  have hU := Un_pos
  exact Int.mul_le_mul_right (by omega)
theorem mulU_lt {a b : Int} : a * (Un : Int) < b * (Un : Int) ↔ a < b := by
  have := @mulU_le b a
  omega
theorem mulU_eq {a b : Int} : a * (Un : Int) = b * (Un : Int) ↔ a = b := by
  have := @mulU_le b a
  have := @mulU_le a b
  omega

theorem cut_whole (s : Bool) (m : Nat) : Toward.zero.cut s m 0 = m := by
  unfold Toward.cut
  simp
theorem cut_zero_of (s : Bool) {m k q : Nat} (h : m = q * 2 ^ k) : Toward.zero.cut s m k = q := by
  unfold Toward.cut
  simp only [Nat.shiftLeft_eq, Nat.one_mul]
  have hk := Nat.two_pow_pos k
  by_cases h0 : q = 0
  · rw [h, h0, Nat.zero_mul, Nat.zero_div]
    rfl
  · have hle : 2 ^ k ≤ m := by
      rw [h]
      exact Nat.le_mul_of_pos_left _ (by omega)
    have hm0 : m ≠ 0 := by omega
    have hl : k ≤ m.log2 := (Nat.le_log2 hm0).2 hle
    rw [Nat.min_eq_left (by omega), h, Nat.mul_div_cancel _ hk]
    rfl
theorem toInt_whole {a : Nat} {n : Int} (ha : Fin_ a) (h : ex a = n * (Un : Int)) : (D.read a).toInt .zero = some n := by
  obtain ⟨wa, la⟩ := word_of ha.1
  have hfin := ha.2
  obtain ⟨s, hs⟩ : ∃ s, s = decide (signB ≤ a) := ⟨_, rfl⟩
  obtain ⟨x, hx⟩ : ∃ x, x = a % signB := ⟨_, rfl⟩
  rw [← hs, ← hx] at wa
  rw [← hx] at la hfin
  have hexa : ex a = if s = true then -(NN x : Int) else (NN x : Int) := by
    rw [wa, ex_word s hfin]
  rw [show D.read a = D.read (D.word s x) by rw [← wa], read_num s hfin]
  have hge := takenE_ge x
  have hUp := Un_pos
  have hna : NN x = n.natAbs * Un := by
    have h1 : (ex a).natAbs = NN x := by
      rw [hexa]
      split <;> omega
    rw [← h1, h, Int.natAbs_mul, Int.natAbs_natCast]
  have key : Toward.zero.cut s (takenM x <<< (takenE x).toNat) (-takenE x).toNat = n.natAbs := by
    by_cases he : 0 ≤ takenE x
    · rw [show (-takenE x).toNat = 0 by omega, Nat.shiftLeft_eq, cut_whole]
      have h2 : NN x = takenM x * 2 ^ (takenE x).toNat * Un := by
        obtain ⟨e, he, hU⟩ := Un_def
        rw [hU]
        unfold NN
        rw [Nat.mul_assoc, ← Nat.pow_add]
        congr 2
        omega
      rw [hna] at h2
      exact (Nat.eq_of_mul_eq_mul_right hUp h2).symm
    · rw [show (takenE x).toNat = 0 by omega, Nat.shiftLeft_zero]
      refine cut_zero_of s ?_
      have hPp := Nat.two_pow_pos (takenE x + 1074).toNat
      have h2 : takenM x * 2 ^ (takenE x + 1074).toNat = n.natAbs * 2 ^ (-takenE x).toNat * 2 ^ (takenE x + 1074).toNat := by
        have h3 : n.natAbs * Un = n.natAbs * 2 ^ (-takenE x).toNat * 2 ^ (takenE x + 1074).toNat := by
          obtain ⟨e, he, hU⟩ := Un_def
          rw [hU, Nat.mul_assoc, ← Nat.pow_add]
          congr 2
          omega
        rw [← h3, ← hna]
        rfl
      exact Nat.eq_of_mul_eq_mul_right hPp h2
  show some (signed s (Toward.zero.cut s (takenM x <<< (takenE x).toNat) (-takenE x).toNat) 0) = _
  rw [key, signed_zero]
  congr 1
  have hsign : if s = true then n ≤ 0 else 0 ≤ n := by
    have hN : (0 : Int) ≤ NN x := by omega
    cases s
    · simp only [Bool.false_eq_true, if_false] at hexa ⊢
      have : (0 : Int) * (Un : Int) ≤ n * (Un : Int) := by rw [Int.zero_mul]; omega
      exact mulU_le.1 this
    · simp only [if_true] at hexa ⊢
      have : n * (Un : Int) ≤ (0 : Int) * (Un : Int) := by rw [Int.zero_mul]; omega
      exact mulU_le.1 this
  cases s
  · simp only [Bool.false_eq_true, if_false] at hsign ⊢
    omega
  · simp only [if_true] at hsign ⊢
    omega

theorem fint_some {a : Nat} {n : Int} (ha : Fin_ a) (h : ex a = n * (Un : Int)) (h1 : -9223372036854775808 ≤ n) (h2 : n < 9223372036854775808) : fint a = some n := by
  have hf := floor_ex ha
  have hfe : fequal a (ffloor a) = true := by
    rw [fequal_val ha.1 hf.1.1, ha.no, hf.1.no, decide_eq_true ((whole_iff ha).2 ⟨n, h⟩)]
    rfl
  have hge : fgeq a c63n = true := by
    rw [fgeq_val ha.1 c63n_ex.1.1, ha.no, c63n_ex.1.no, decide_eq_true ((ex_le c63n_ex.1 ha).2 (by
      rw [c63n_ex.2, h, ← Int.neg_mul]
      exact mulU_le.2 (by
        have : ((2 ^ 63 : Nat) : Int) = 9223372036854775808 := by decide
        omega)))]
    rfl
  have hlt : fless a c63 = true := by
    rw [fless_val ha.1 c63_ex.1.1, ha.no, c63_ex.1.no, decide_eq_true ((ex_lt ha c63_ex.1).2 (by
      rw [c63_ex.2, h]
      exact mulU_lt.2 (by
        have : ((2 ^ 63 : Nat) : Int) = 9223372036854775808 := by decide
        omega)))]
    rfl
  unfold fint
  rw [hfe, hge, hlt]
  simp only [Bool.and_self, if_true]
  unfold floatToIntVal
  have : FloatKind.f64.decode a = D.read a := rfl
  rw [this, toInt_whole ha h]
  have b1 : IntKind.i64.min = -9223372036854775808 := by decide
  have b2 : IntKind.i64.max = 9223372036854775807 := by decide
  simp only [b1, b2]
  rw [if_pos ⟨h1, by omega⟩]

theorem finite_of_bounds {a : Nat} (ha : a < 2 * signB) (h1 : fgeq a c63n = true) (h2 : fless a c63 = true) : Fin_ a := by
  refine ⟨ha, ?_⟩
  rw [fgeq_val ha c63n_ex.1.1, Bool.and_eq_true] at h1
  rw [fless_val ha c63_ex.1.1, Bool.and_eq_true] at h2
  have g1 := of_decide_eq_true h1.2
  have g2 := of_decide_eq_true h2.2
  unfold fval c63n at g1
  unfold fval c63 at g2
  unfold signB infB at *
  split at g1 <;> split at g2 <;> omega
theorem fint_back {a : Nat} {n : Int} (ha : a < 2 * signB) (h : fint a = some n) : Fin_ a ∧ ex a = n * (Un : Int) ∧ -9223372036854775808 ≤ n ∧ n < 9223372036854775808 := by
  unfold fint at h
  split at h
  · rename_i hc
    rw [Bool.and_eq_true, Bool.and_eq_true] at hc
    have hfin := finite_of_bounds ha hc.2.1 hc.2.2
    have hf := floor_ex hfin
    have h1 := hc.1
    rw [fequal_val ha hf.1.1, Bool.and_eq_true] at h1
    obtain ⟨k, hk⟩ := (whole_iff hfin).1 (of_decide_eq_true h1.2)
    unfold floatToIntVal at h
    have : FloatKind.f64.decode a = D.read a := rfl
    rw [this, toInt_whole hfin hk] at h
    have b1 : IntKind.i64.min = -9223372036854775808 := by decide
    have b2 : IntKind.i64.max = 9223372036854775807 := by decide
    simp only [b1, b2] at h
    split at h
    · rename_i hb
      injection h with h
      rw [← h]
      exact ⟨hfin, hk, hb.1, by omega⟩
    · cases h
  · cases h

/-! ### NumFloors -/
theorem NN_52 : NN 4841369599423283200 = 4503599627370496 * Un := by
  have h := (pow2_ex 52 (by decide)).2
  have hw : (1023 + 52) * 4503599627370496 = D.word false 4841369599423283200 := by decide
  rw [hw, ex_word false (by decide)] at h
  simp only [Bool.false_eq_true, if_false] at h
  have h2 : ((NN 4841369599423283200 : Nat) : Int) = ((4503599627370496 * Un : Nat) : Int) := by
    rw [h, Int.natCast_mul]
  exact Int.ofNat.inj h2

theorem floors_great {a : Nat} (ha : a < 2 * signB) (h : 4841369599423283200 ≤ fabs a) : ffloor a = fcan a := by
  unfold fcan
  by_cases hn : isN a = true
  · unfold ffloor
    rw [if_pos hn, if_pos hn]
  · rw [if_neg hn, ffloor_eq ha]
    unfold fabs at h
    rw [if_neg hn] at h
    unfold rFloor
    rw [if_neg hn]
    by_cases hc : a % signB = infB ∨ a % signB = 0
    · rw [if_pos hc]
    · rw [if_neg hc]
      have : 0 ≤ takenE (a % signB) := by
        unfold takenE
        rw [if_neg (by omega)]
        omega
      rw [if_pos this]

theorem floors_small {a : Nat} (ha : a < 2 * signB) (h : fabs a < 4841369599423283200) :
    ∃ n : Int, fint (ffloor a) = some n ∧ fless a (ffloor a) = false ∧ fequal (fof n) (ffloor a) = true ∧ fless oneB (fsub a (ffloor a)) = false ∧ (fequal a (ffloor a) = true ∨ fless (ffloor a) a = true) ∧ fless a (fadd (ffloor a) oneB) = true ∧ -9223372036854775808 ≤ n ∧ n ≤ 9223372036854775807 := by
  have hn : isN a = false := by
    cases hc : isN a
    · rfl
    · unfold fabs at h
      rw [hc] at h
      unfold nanB at h
      simp at h
  unfold fabs at h
  rw [hn, if_neg (by decide)] at h
  have hfin : Fin_ a := ⟨ha, by unfold infB; omega⟩
  obtain ⟨hf, n, h1, h2, h3, h4⟩ := floor_ex hfin
  have hU := Un_pos
  have hNN : (NN (a % signB) : Int) ≤ 4503599627370496 * (Un : Int) := by
    have := (NN_le hfin.2 (show 4841369599423283200 < infB by decide)).2 (by omega)
    rw [NN_52] at this
    have h9 : ((4503599627370496 * Un : Nat) : Int) = 4503599627370496 * (Un : Int) := Int.natCast_mul _ _
    rw [← h9]
    exact Int.ofNat_le.2 this
  have hex : -(4503599627370496 * (Un : Int)) ≤ ex a ∧ ex a ≤ 4503599627370496 * (Un : Int) := by
    unfold ex
    rw [exact_NN]
    split <;> omega
  have n1 : n ≤ 4503599627370496 := mulU_le.1 (by omega)
  have n2 : -4503599627370497 < n := by
    refine mulU_lt.1 ?_
    rw [Int.neg_mul, show (4503599627370497 : Int) = 4503599627370496 + 1 by decide, Int.add_mul, Int.one_mul]
    omega
  refine ⟨n, fint_some hf h1 (by omega) (by omega), ?_, ?_, ?_, ?_, ?_, by omega, by omega⟩
  · rw [fless_val ha hf.1, decide_eq_false (by rw [ex_lt hfin hf, h1]; omega), Bool.and_false]
  · have hr := fof_exact (rep_whole (n := n) (by omega))
    rw [fequal_val hr.1.1 hf.1, hr.1.no, hf.no, decide_eq_true ((ex_eq hr.1 hf).2 (by rw [hr.2, h1]))]
    rfl
  · have hs := fval_sub hfin hf
    have h5 : fval (fsub a (ffloor a)) ≤ fval oneB := by
      rw [hs, fval_rounds one_ex.1, one_ex.2]
      exact rounds_mono (by omega)
    rw [fless_val one_ex.1.1 (fsub_lt _ _).1, decide_eq_false (by omega), Bool.and_false]
  · by_cases c : ex a = n * (Un : Int)
    · left
      rw [fequal_val ha hf.1, hfin.no, hf.no, decide_eq_true ((ex_eq hfin hf).2 (by rw [c, h1]))]
      rfl
    · right
      rw [fless_val hf.1 ha, hfin.no, hf.no, decide_eq_true ((ex_lt hf hfin).2 (by omega))]
      rfl
  · have hs := fval_add hf one_ex.1
    rw [h1, one_ex.2, show n * (Un : Int) + (Un : Int) = (n + 1) * (Un : Int) by rw [Int.add_mul, Int.one_mul]] at hs
    obtain ⟨hg1, hg2⟩ := ex_exact (fadd_lt _ _).1 hs (rep_whole (by omega))
    rw [fless_val ha hg1.1, hfin.no, hg1.no, decide_eq_true ((ex_lt hfin hg1).2 (by rw [hg2, Int.add_mul, Int.one_mul]; omega))]
    rfl

/-! ### NumCounts -/
theorem counts_back {a : Nat} {n : Int} (ha : a < 2 * signB) (h : fint a = some n) : fequal (fof n) a = true := by
  obtain ⟨hf, he, _⟩ := fint_back ha h
  have hr := fof_exact (n := n) (by rw [← he]; exact ex_rep hf)
  rw [fequal_val hr.1.1 ha, hr.1.no, hf.no, decide_eq_true ((ex_eq hr.1 hf).2 (by rw [hr.2, he]))]
  rfl

theorem mul_exact {a b : Nat} (ha : Fin_ a) (hb : Fin_ b) : fmul a b = D.nearest (decide (signB ≤ a) ^^ decide (signB ≤ b)) (NN (a % signB) * NN (b % signB)) (-2148) := by
  obtain ⟨wa, la⟩ := word_of ha.1
  obtain ⟨wb, lb⟩ := word_of hb.1
  have fa := ha.2
  have fb := hb.2
  generalize decide (signB ≤ a) = s at wa ⊢
  generalize decide (signB ≤ b) = t at wb ⊢
  generalize a % signB = x at wa fa ⊢
  generalize b % signB = y at wb fb ⊢
  subst wa wb
  unfold fmul Format.mul
  rw [read_num s fa, read_num t fb]
  simp only [Datum.product, Option.map_some, Option.getD_some]
  show D.nearest (s ^^ t) (takenM x * takenM y) (takenE x + takenE y) = _
  have g1 := takenE_ge x
  have g2 := takenE_ge y
  have hN : NN x * NN y = takenM x * takenM y * 2 ^ ((takenE x + 1074).toNat + (takenE y + 1074).toNat) := by
    unfold NN
    rw [Nat.pow_add]
    simp only [Nat.mul_assoc, Nat.mul_left_comm]
  rw [hN]
  by_cases h0 : takenM x * takenM y = 0
  · rw [h0, Nat.zero_mul, nearest_none, nearest_none]
  · exact (nearest_scale (s ^^ t) (by omega) (by omega)).symm

theorem counts {n m : Int} (hn : -33554432 ≤ n ∧ n ≤ 33554432) (hm : -33554432 ≤ m ∧ m ≤ 33554432) :
    fint (fadd (fof n) (fof m)) = some (n + m) ∧ fint (fmul (fof n) (fof m)) = some (n * m) ∧ fless (fof n) (fof m) = decide (n < m) := by
  have an := fof_exact (rep_whole (n := n) (by omega))
  have am := fof_exact (rep_whole (n := m) (by omega))
  have hU := Un_pos
  refine ⟨?_, ?_, ?_⟩
  · have hs := fval_add an.1 am.1
    rw [an.2, am.2, ← Int.add_mul] at hs
    obtain ⟨h1, h2⟩ := ex_exact (fadd_lt _ _).1 hs (rep_whole (by omega))
    exact fint_some h1 h2 (by omega) (by omega)
  · have hprod : (n * m).natAbs ≤ 1125899906842624 := by
      rw [Int.natAbs_mul]
      calc n.natAbs * m.natAbs ≤ 33554432 * 33554432 := Nat.mul_le_mul (by omega) (by omega)
        _ = 1125899906842624 := by decide
    have hN : ∀ k : Int, ex (fof k) = k * (Un : Int) → NN (fof k % signB) = k.natAbs * Un := by
      intro k hk
      have : (ex (fof k)).natAbs = NN (fof k % signB) := by
        unfold ex
        rw [exact_NN]
        split <;> omega
      rw [← this, hk, Int.natAbs_mul, Int.natAbs_natCast]
    have hmul := mul_exact an.1 am.1
    rw [hN n an.2, hN m am.2] at hmul
    obtain ⟨u, hu, hU2⟩ := Un_def
    obtain ⟨r, hr1, hr2⟩ := rep (m := (n * m).natAbs) (by omega) u (by omega)
    have hr3 : NN r = (n * m).natAbs * Un := by
      rw [hU2]
      exact hr2
    have e1 : n.natAbs * Un * (m.natAbs * Un) = (n * m).natAbs * Un * 2 ^ u := by
      rw [Int.natAbs_mul, ← hU2]
      simp only [Nat.mul_assoc, Nat.mul_left_comm]
    have e2 : ∀ s : Bool, D.nearest s ((n * m).natAbs * Un * 2 ^ u) (-2148) = D.word s r := by
      intro s
      by_cases h0 : (n * m).natAbs * Un = 0
      · rw [h0, Nat.zero_mul, nearest_none]
        rw [h0] at hr3
        have : r = 0 := by
          have hz : NN r ≤ NN 0 := by rw [hr3, NN_zero]; exact Nat.le_refl _
          have := (NN_le hr1 (show 0 < infB by decide)).1 hz
          omega
        rw [this]
      · rw [nearest_scale s (e := -1074) (by omega) (by omega), ← hr3, (nearest_is s _ _).1]
        have := rung_exact hr1
        unfold NN
        rw [this]
    rw [e1, e2] at hmul
    obtain ⟨s, hs⟩ : ∃ s, s = (decide (signB ≤ fof n) ^^ decide (signB ≤ fof m)) := ⟨_, rfl⟩
    rw [← hs] at hmul
    rw [hmul]
    refine fint_some (fin_word s hr1) ?_ (by omega) (by omega)
    rw [ex_word s hr1, hr3]
    have hsgn : ∀ k : Int, Fin_ (fof k) → ex (fof k) = k * (Un : Int) → (if decide (signB ≤ fof k) = true then k ≤ 0 else 0 ≤ k) := by
      intro k hf hk
      unfold ex at hk
      rw [exact_NN] at hk
      by_cases d : signB ≤ fof k
      · rw [decide_eq_true d, if_pos rfl]
        rw [decide_eq_true d, if_pos rfl] at hk
        exact mulU_le.1 (by rw [Int.zero_mul]; omega)
      · rw [decide_eq_false d, if_neg (by decide)]
        rw [decide_eq_false d, if_neg (by decide)] at hk
        exact mulU_le.1 (by rw [Int.zero_mul]; omega)
    have sn := hsgn n an.1 an.2
    have sm := hsgn m am.1 am.2
    generalize decide (signB ≤ fof n) = p at sn hs
    generalize decide (signB ≤ fof m) = q at sm hs
    have hfin : if s = true then n * m ≤ 0 else 0 ≤ n * m := by
      subst hs
      cases p <;> cases q <;> simp only [Bool.false_eq_true, if_false, if_true, Bool.xor_false, Bool.xor_true, Bool.not_false, Bool.not_true] at sn sm ⊢
      · exact Int.mul_nonneg sn sm
      · exact Int.mul_nonpos_of_nonneg_of_nonpos sn sm
      · exact Int.mul_nonpos_of_nonpos_of_nonneg sn sm
      · exact Int.mul_nonneg_of_nonpos_of_nonpos sn sm
    generalize n * m = v at hfin ⊢
    cases s
    · simp only [Bool.false_eq_true, if_false] at hfin ⊢
      rw [Int.natCast_mul]
      congr 1
      omega
    · simp only [if_true] at hfin ⊢
      rw [Int.natCast_mul, ← Int.neg_mul]
      congr 1
      omega
  · rw [fless_val an.1.1 am.1.1, an.1.no, am.1.no]
    have : fval (fof n) < fval (fof m) ↔ n < m := by
      rw [ex_lt an.1 am.1, an.2, am.2]
      exact mulU_lt
    simp only [this, Bool.not_false, Bool.true_and]
end Go.Proofs.YtiidkgdlngcpgaaGreatDoor

namespace Go.Proofs.YtiidkgdlngcpgaaGreatDoor
open Ieee

/-- the word of 2^k -/
def pow2 (k : Int) : Nat := (1023 + k).toNat * 4503599627370496
theorem pow2_taken {k : Int} (h : -1000 ≤ k ∧ k ≤ 1000) : pow2 k < infB ∧ takenM (pow2 k) = 4503599627370496 ∧ takenE (pow2 k) = k - 52 := by
  obtain ⟨n, hn⟩ : ∃ n : Nat, (1023 + k).toNat = n := ⟨_, rfl⟩
  unfold pow2
  rw [hn]
  have c : ¬ n * 4503599627370496 < 4503599627370496 := by omega
  refine ⟨by unfold infB; omega, ?_, ?_⟩
  · unfold takenM
    rw [if_neg c, Nat.mul_mod_left]
  · unfold takenE
    rw [if_neg c, Nat.mul_div_cancel _ (by decide)]
    omega

theorem nearest_scale0 (s : Bool) (m : Nat) {d : Nat} {e f : Int} (hd : e - f = (d : Int)) : D.nearest s (m * 2 ^ d) f = D.nearest s m e := by
  by_cases hm : m = 0
  · subst hm
    rw [Nat.zero_mul, nearest_none, nearest_none]
  · exact nearest_scale s (by omega) hd

theorem mul_two (s : Bool) {x y c : Nat} {k : Int} (hx : x < infB) (hy : y < infB) (hM : takenM y = 2 ^ c) (hE : takenE y = k - (c : Int)) : fmul (D.word s x) (D.word false y) = D.word s (rung (takenM x) (takenE x + k)) := by
  have h1 : fmul (D.word s x) (D.word false y) = D.nearest s (takenM x * 2 ^ c) (takenE x + (k - (c : Int))) := by
    unfold fmul Format.mul
    rw [read_num s hx, read_num false hy, hM, hE]
    simp only [Datum.product, Option.map_some, Option.getD_some, Bool.xor_false]
    rfl
  rw [h1, nearest_scale0 s (takenM x) (e := takenE x + k) (d := c) (by omega)]
  exact (nearest_is s _ _).1

theorem quot_two (d c m : Nat) (i j : Int) (s t : Bool) (hl : m.log2 ≤ d) : ∃ g : Nat, Datum.quotient d (.number s m i) (.number t (2 ^ c) j) = some (.number (s ^^ t) (m * 2 ^ (g + 1)) (i - j - (c : Int) - ((g + 1 : Nat) : Int))) := by
  refine ⟨d - m.log2, ?_⟩
  have hc := Nat.two_pow_pos c
  simp only [Datum.quotient]
  rw [if_neg (Nat.pos_iff_ne_zero.1 hc), Nat.log2_two_pow]
  obtain ⟨g, hg⟩ : ∃ g, g = d - m.log2 := ⟨_, rfl⟩
  rw [← hg, show d + c - m.log2 = c + g by omega, Nat.shiftLeft_eq]
  have e1 : m * 2 ^ (c + g) = 2 ^ c * (m * 2 ^ g) := by
    rw [Nat.pow_add]
    exact Nat.mul_left_comm _ _ _
  rw [e1, Nat.mul_div_cancel_left _ hc, Nat.mul_mod_right]
  have e2 : 2 * (m * 2 ^ g) + ((0 : Nat) != 0).toNat = m * 2 ^ (g + 1) := by
    show 2 * (m * 2 ^ g) + 0 = _
    rw [Nat.add_zero, Nat.pow_succ, Nat.mul_comm 2, Nat.mul_assoc]
  have e3 : i - j - ((c + g : Nat) : Int) - 1 = i - j - (c : Int) - ((g + 1 : Nat) : Int) := by omega
  rw [e2, e3]

theorem div_two (s : Bool) {x y c : Nat} {k : Int} (hx : x < infB) (hy : y < infB) (hM : takenM y = 2 ^ c) (hE : takenE y = k - (c : Int)) : fdiv (D.word s x) (D.word false y) = D.word s (rung (takenM x) (takenE x - k)) := by
  have hl : (takenM x).log2 ≤ D.fractionBits + 2 := by
    by_cases h0 : takenM x = 0
    · rw [h0]
      decide
    · have h1 : takenM x < 2 ^ 53 := Nat.lt_of_lt_of_le (taken_lt (r := x)) (by decide)
      have h2 := (Nat.log2_lt (k := 53) h0).2 h1
      have h3 : D.fractionBits = 52 := rfl
      omega
  obtain ⟨g, hg⟩ := quot_two (D.fractionBits + 2) c (takenM x) (takenE x) (k - (c : Int)) s false hl
  have h1 : fdiv (D.word s x) (D.word false y) = D.nearest s (takenM x * 2 ^ (g + 1)) (takenE x - (k - (c : Int)) - (c : Int) - ((g + 1 : Nat) : Int)) := by
    unfold fdiv Format.div
    rw [read_num s hx, read_num false hy, hM, hE, hg, Bool.xor_false]
    rfl
  rw [h1, nearest_scale0 s (takenM x) (e := takenE x - k) (d := g + 1) (by omega)]
  exact (nearest_is s _ _).1

theorem mul_pow2 (s : Bool) {x : Nat} {k : Int} (hx : x < infB) (h : -1000 ≤ k ∧ k ≤ 1000) : fmul (D.word s x) (D.word false (pow2 k)) = D.word s (rung (takenM x) (takenE x + k)) := by
  obtain ⟨p1, p2, p3⟩ := pow2_taken h
  exact mul_two s (c := 52) hx p1 (p2.trans (by decide)) p3
theorem div_pow2 (s : Bool) {x : Nat} {k : Int} (hx : x < infB) (h : -1000 ≤ k ∧ k ≤ 1000) : fdiv (D.word s x) (D.word false (pow2 k)) = D.word s (rung (takenM x) (takenE x - k)) := by
  obtain ⟨p1, p2, p3⟩ := pow2_taken h
  exact div_two s (c := 52) hx p1 (p2.trans (by decide)) p3

/-- an amount that is scaled and stays plain is scaled exactly -/
theorem scaled {m : Nat} {e : Int} (hm : 4503599627370496 ≤ m) (hm2 : m < 9007199254740992) (hr1 : rung m e < infB) (hr2 : 4503599627370496 < rung m e) : takenM (rung m e) = m ∧ takenE (rung m e) = e := by
  have hm0 : m ≠ 0 := by omega
  have p52 : 2 ^ 52 ≤ m := Nat.le_trans (by decide) hm
  have p53 : m < 2 ^ 53 := Nat.lt_of_lt_of_le hm2 (by decide)
  have hlog : m.log2 = 52 := log2_is p52 p53
  have hr := rung_is (p := e) hm0
  have hl : lastOf m e = max e (-1074) := by
    unfold lastOf
    rw [hlog]
    omega
  by_cases he : -1074 ≤ e
  · have hl2 : lastOf m e = e := by
      rw [hl]
      omega
    rw [hl2, Int.sub_self, Int.toNat_zero, Nat.pow_zero, Nat.mul_one, half_zero] at hr
    obtain ⟨n, hn⟩ : ∃ n, n = (e + 1074).toNat := ⟨_, rfl⟩
    rw [← hn] at hr
    have hr3 : rung m e = n * 4503599627370496 + m := by omega
    rw [hr3]
    have c : ¬ n * 4503599627370496 + m < 4503599627370496 := by omega
    constructor
    · unfold takenM
      rw [if_neg c]
      omega
    · unfold takenE
      rw [if_neg c]
      omega
  · exfalso
    have hl2 : lastOf m e = -1074 := by
      rw [hl]
      omega
    rw [hl2, show (-1074 + 1074 : Int).toNat = 0 by decide, Nat.zero_mul, Nat.zero_add, show (e - -1074).toNat = 0 by omega, Nat.pow_zero, Nat.mul_one] at hr
    have h2 : half m (-1074 - e).toNat ≤ 2 ^ 52 := half_le 52 (Nat.lt_of_lt_of_le p53 (Nat.pow_le_pow_right (by decide) (by omega)))
    have h3 : (2 : Nat) ^ 52 = 4503599627370496 := by decide
    rw [h3] at h2
    omega

theorem div_none (y : Nat) {a : Nat} (ha : a < 2 * signB) (h : isN a = true) : fdiv a y = nanB := by
  obtain ⟨s, f, hr⟩ := read_isN ha h
  unfold fdiv Format.div
  rw [hr, quotient_nan_l]
  rfl
theorem mul_none (y : Nat) {a : Nat} (ha : a < 2 * signB) (h : isN a = true) : fmul a y = nanB := by
  obtain ⟨s, f, hr⟩ := read_isN ha h
  unfold fmul Format.mul
  rw [hr, product_nan_l]
  rfl
theorem mul_far (s : Bool) {y : Nat} (hy : y < infB) (h0 : takenM y ≠ 0) : fmul (D.word s infB) (D.word false y) = D.word s infB := by
  unfold fmul Format.mul
  rw [read_inf, read_num false hy]
  simp only [Datum.product, if_neg h0, Bool.xor_false, Option.map_some, Option.getD_some]
  show D.word s D.infRung = _
  rw [D_inf]
  rfl
theorem div_far (s : Bool) {y : Nat} (hy : y < infB) : fdiv (D.word s infB) (D.word false y) = D.word s infB := by
  unfold fdiv Format.div
  rw [read_inf, read_num false hy]
  simp only [Datum.quotient, Bool.xor_false, Option.map_some, Option.getD_some]
  show D.word s D.infRung = _
  rw [D_inf]
  rfl
theorem word_false (y : Nat) : D.word false y = y := by
  unfold Format.word
  simp

/-- NumScales -/
theorem scales {a : Nat} {k : Int} (ha : a < 2 * signB) (h : -1000 ≤ k ∧ k ≤ 1000) : fdiv a (pow2 (-k)) = fmul a (pow2 k) ∧
    (fclass a = 4 → fclass (fmul a (pow2 k)) = 4 → 4503599627370496 < fabs (fmul a (pow2 k)) → fmul (fmul a (pow2 k)) (pow2 (-k)) = a ∧ fdiv (fmul a (pow2 k)) (pow2 k) = a) := by
  have hk : -1000 ≤ -k ∧ -k ≤ 1000 := by omega
  obtain ⟨p1, p2, p3⟩ := pow2_taken h
  obtain ⟨q1, q2, q3⟩ := pow2_taken hk
  by_cases hn : isN a = true
  · rw [div_none _ ha hn, mul_none _ ha hn]
    refine ⟨rfl, fun h4 => ?_⟩
    rw [(class_nan a).2 hn] at h4
    cases h4
  rw [Bool.not_eq_true] at hn
  have hn2 : ¬ infB < a % signB := of_decide_eq_false hn
  obtain ⟨wa, la⟩ := word_of ha
  obtain ⟨s, hs⟩ : ∃ s, s = decide (signB ≤ a) := ⟨_, rfl⟩
  obtain ⟨x, hx⟩ : ∃ x, x = a % signB := ⟨_, rfl⟩
  have h4a := class_plain a
  rw [← hs, ← hx] at wa
  rw [← hx] at hn2 la h4a
  rw [wa] at h4a ⊢
  rw [← word_false (pow2 k), ← word_false (pow2 (-k))]
  by_cases hxi : x = infB
  · rw [hxi, div_far s q1, mul_far s p1 (by rw [p2]; decide)]
    refine ⟨rfl, fun h4 => ?_⟩
    rw [← hxi] at h4
    have := (h4a.1 h4).2
    omega
  · have hxf : x < infB := by omega
    rw [div_pow2 s hxf hk, mul_pow2 s hxf h, show takenE x - -k = takenE x + k by omega]
    refine ⟨rfl, fun h4 h5 h6 => ?_⟩
    have hx52 := (h4a.1 h4).1
    obtain ⟨r, hr⟩ : ∃ r, r = rung (takenM x) (takenE x + k) := ⟨_, rfl⟩
    have hr5 := (class_plain _).1 h5
    have hrI := (nearest_is s (takenM x) (takenE x + k)).2
    have hrS : r < signB := by
      rw [← hr] at hrI
      exact Nat.lt_of_le_of_lt hrI inf_sign
    rw [← hr] at h6 hr5
    rw [word_mod s hrS] at hr5
    have hnr : isN (D.word s r) = false := by
      unfold isN
      rw [word_mod s hrS]
      exact decide_eq_false (by omega)
    unfold fabs at h6
    rw [hnr, if_neg (by decide), word_mod s hrS] at h6
    have hm : 4503599627370496 ≤ takenM x := by
      unfold takenM
      rw [if_neg (by omega)]
      omega
    obtain ⟨e1, e2⟩ := scaled hm (taken_lt (r := x)) (by rw [← hr]; exact hr5.2) (by rw [← hr]; exact h6)
    rw [← hr] at e1 e2 ⊢
    rw [mul_pow2 s hr5.2 hk, div_pow2 s hr5.2 h, e1, e2, show takenE x + k + -k = takenE x by omega, show takenE x + k - k = takenE x by omega]
    have := nearest_taken s hxf
    rw [(nearest_is s _ _).1] at this
    exact ⟨this, this⟩
end Go.Proofs.YtiidkgdlngcpgaaGreatDoor

namespace Go.Proofs.YtiidkgdlngcpgaaGreatDoor
open Ieee

theorem no_nan {a : Nat} (h : isN a = false) : a % signB ≤ infB := by
  have : ¬ infB < a % signB := of_decide_eq_false h
  omega
theorem can_not {a : Nat} (h : fcan a = a) (hn : a ≠ nanB) : isN a = false := by
  unfold fcan at h
  cases hc : isN a
  · rfl
  · rw [hc, if_pos rfl] at h
    exact absurd h.symm hn
theorem fval_inf {a : Nat} (h : isN a = false) : fval a ≤ (infB : Int) ∧ -(infB : Int) ≤ fval a := by
  have := no_nan h
  unfold fval
  split <;> omega

/-- how two stand, by their values and the signs of zeros -/
theorem rank_le {u v : Nat} (hu : u < 2 * signB) (hv : v < 2 * signB) (nu : isN u = false) (nv : isN v = false) : forder u v ≤ 0 ↔ (fval u ≤ fval v ∧ ¬ (u = 0 ∧ v = signB)) := by
  rw [forder_eq hu hv, rOrder_le]
  unfold rrank
  rw [nu, nv]
  simp only [Bool.false_eq_true, if_false]
  unfold fval signB at *
  split <;> split <;> omega
theorem forder_self {u : Nat} (hu : u < 2 * signB) : forder u u ≤ 0 := by
  rw [forder_eq hu hu, rOrder_le]
  exact Nat.le_refl _

theorem add_none_r (y : Nat) {a : Nat} (ha : a < 2 * signB) (h : isN a = true) : fadd y a = nanB := by
  obtain ⟨s, f, hr⟩ := read_isN ha h
  unfold fadd Format.add
  rw [hr, sum_nan_r]
  rfl
theorem mul_none_r (y : Nat) {a : Nat} (ha : a < 2 * signB) (h : isN a = true) : fmul y a = nanB := by
  rw [fmul_comm]
  exact mul_none y ha h
theorem add_inf_l {a c : Nat} (ha : a < 2 * signB) (hc : c < 2 * signB) (h : a % signB = infB) : fadd a c = a ∨ fadd a c = nanB := by
  rw [fadd_eq ha hc]
  unfold rAdd
  by_cases c1 : infB < a % signB ∨ infB < c % signB ∨ (a % signB = infB ∧ c % signB = infB ∧ a ≠ c)
  · rw [if_pos c1]
    exact .inr rfl
  · rw [if_neg c1, if_pos h]
    exact .inl rfl
theorem add_inf_r {a c : Nat} (ha : a < 2 * signB) (hc : c < 2 * signB) (h : c % signB = infB) : fadd a c = c ∨ fadd a c = nanB := by
  rw [fadd_comm]
  exact add_inf_l hc ha h

theorem rung_one : rung 1 (-1074) = 1 := by
  have h := rung_exact (r := 1) (by decide)
  have h2 : takenM 1 * 2 ^ (takenE 1 + 1074).toNat = 1 := by decide
  rw [h2] at h
  exact h
theorem rounds_none {T : Int} (h : rounds T = 0) : T = 0 := by
  by_cases h0 : T = 0
  · exact h0
  · exfalso
    have h1 := rung_mono (v := 1) (w := T.natAbs) (-1074) (by omega)
    rw [rung_one] at h1
    unfold rounds at h
    split at h <;> omega

theorem fval_zero {a : Nat} (h : a % signB = 0) : fval a = 0 := by
  unfold fval
  rw [h]
  split <;> rfl

/-- a sum that is the zero below the other one is that of two such zeros -/
theorem add_below {b c : Nat} (hb : Fin_ b) (hc : Fin_ c) (h : fadd b c = signB) : b = signB ∧ c = signB := by
  have h1 := fval_add hb hc
  rw [h, fval_zero (by decide)] at h1
  have hT := rounds_none h1.symm
  have heq := fadd_eq hb.1 hc.1
  rw [h] at heq
  have hbI := hb.2
  have hcI := hc.2
  unfold ex at hT
  rw [exact_NN, exact_NN] at hT
  have hNN : NN (b % signB) = NN (c % signB) := by
    split at hT <;> split at hT <;> omega
  have hxy : b % signB = c % signB := by
    have h2 := (NN_le hbI hcI).1 (by omega)
    have h3 := (NN_le hcI hbI).1 (by omega)
    omega
  unfold rAdd at heq
  rw [if_neg (by omega), if_neg (by omega), if_neg (by omega)] at heq
  by_cases h0 : b % signB = 0
  · rw [if_pos ⟨h0, by omega⟩] at heq
    have hbl := hb.1
    have hcl := hc.1
    have h5 := hxy
    rw [h0] at h5
    by_cases c2 : signB ≤ b ∧ signB ≤ c
    · unfold signB at *
      omega
    · rw [if_neg c2] at heq
      exact absurd heq (by decide)
  · exfalso
    rw [if_neg (by omega), if_neg (by omega), if_neg (by omega), if_neg (by omega), hxy] at heq
    unfold sum2 at heq
    rw [if_neg (by omega)] at heq
    by_cases hst : decide (signB ≤ b) = decide (signB ≤ c)
    · rw [hst, hNN] at hT
      have hpos : 0 < NN (c % signB) := by
        unfold NN
        exact Nat.mul_pos (takenM_pos (by omega)) (Nat.two_pow_pos _)
      split at hT <;> omega
    · rw [if_neg hst, if_pos rfl] at heq
      exact absurd heq (by decide)

theorem word_nan {s : Bool} {r : Nat} (h : r ≤ infB) : isN (D.word s r) = false := by
  unfold isN
  rw [word_mod s (Nat.lt_of_le_of_lt h inf_sign)]
  exact decide_eq_false (by omega)

/-- NumRises, sums -/
theorem rises_add {a b c : Nat} (ha : a < 2 * signB) (hb : b < 2 * signB) (hc : c < 2 * signB) (na : isN a = false) (nb : isN b = false) (h : forder a b ≤ 0) (hx : fadd a c ≠ nanB) (hy : fadd b c ≠ nanB) : forder (fadd a c) (fadd b c) ≤ 0 := by
  have lx := fadd_lt a c
  have ly := fadd_lt b c
  have nx := can_not lx.2 hx
  have ny := can_not ly.2 hy
  obtain ⟨h1, h2⟩ := (rank_le ha hb na nb).1 h
  have bx := fval_inf nx
  have by_ := fval_inf ny
  by_cases nc : isN c = true
  · exact absurd (add_none_r a hc nc) hx
  rw [Bool.not_eq_true] at nc
  by_cases ci : c % signB = infB
  · rw [(add_inf_r ha hc ci).resolve_right hx, (add_inf_r hb hc ci).resolve_right hy]
    exact forder_self hc
  have fc : Fin_ c := ⟨hc, by have := no_nan nc; omega⟩
  have ba := no_nan na
  have bb := no_nan nb
  have hIpos : 0 < infB := by decide
  have hIs := inf_sign
  by_cases ai : a % signB = infB
  · have ex1 := (add_inf_l ha hc ai).resolve_right hx
    by_cases sa : signB ≤ a
    · rw [ex1] at bx nx lx ⊢
      refine (rank_le ha ly.1 na ny).2 ⟨?_, by omega⟩
      have : fval a = -(infB : Int) := by
        unfold fval
        rw [if_pos sa, ai]
      omega
    · have : b = a := by
        unfold fval at h1
        rw [if_neg sa, ai] at h1
        unfold signB infB at *
        split at h1 <;> omega
      subst this
      exact forder_self lx.1
  by_cases bi : b % signB = infB
  · have ey1 := (add_inf_l hb hc bi).resolve_right hy
    by_cases sb : signB ≤ b
    · exfalso
      unfold fval at h1
      rw [if_pos sb, bi] at h1
      split at h1 <;> omega
    · rw [ey1]
      refine (rank_le lx.1 hb nx nb).2 ⟨?_, ?_⟩
      · have : fval b = (infB : Int) := by
          unfold fval
          rw [if_neg sb, bi]
        omega
      · rintro ⟨_, e⟩
        rw [e] at sb
        exact sb (Nat.le_refl _)
  have fa : Fin_ a := ⟨ha, by omega⟩
  have fb : Fin_ b := ⟨hb, by omega⟩
  refine (rank_le lx.1 ly.1 nx ny).2 ⟨add_rises ha hb hc fa.2 fb.2 fc.2 h1, ?_⟩
  rintro ⟨e1, e2⟩
  obtain ⟨g1, g2⟩ := add_below fb fc e2
  have g3 := fadd_eq ha hc
  rw [e1, g2] at g3
  rw [g1] at h1 h2
  have hz : signB % signB = 0 := by decide
  unfold rAdd at g3
  rw [hz] at g3
  rw [fval_zero (a := signB) hz] at h1
  rw [if_neg (by omega), if_neg ai, if_neg (by omega)] at g3
  by_cases h0 : a % signB = 0
  · rw [if_pos ⟨h0, rfl⟩] at g3
    have sa : signB ≤ a := by
      unfold signB at *
      omega
    rw [if_pos ⟨sa, Nat.le_refl _⟩] at g3
    exact absurd g3 (by decide)
  · rw [if_neg (by omega), if_neg h0, if_pos rfl] at g3
    rw [← g3] at h0
    exact h0 (by decide)

theorem fval_word (s : Bool) {r : Nat} (h : r ≤ infB) : fval (D.word s r) = if s = true then -(r : Int) else (r : Int) := word_val s (Nat.lt_of_le_of_lt h inf_sign)

/-- NumRises, products by what has no sign -/
theorem rises_mul {a b c : Nat} (ha : a < 2 * signB) (hb : b < 2 * signB) (hc : c < 2 * signB) (na : isN a = false) (nb : isN b = false) (h : forder a b ≤ 0) (hs : c < signB) (hx : fmul a c ≠ nanB) (hy : fmul b c ≠ nanB) (hz : ¬ (fmul a c % signB = 0 ∧ fmul b c % signB = 0)) : forder (fmul a c) (fmul b c) ≤ 0 := by
  have lx := fmul_lt a c
  have ly := fmul_lt b c
  have nx := can_not lx.2 hx
  have ny := can_not ly.2 hy
  obtain ⟨h1, h2⟩ := (rank_le ha hb na nb).1 h
  refine (rank_le lx.1 ly.1 nx ny).2 ⟨?_, ?_⟩
  rotate_left
  · rintro ⟨e1, e2⟩
    exact hz ⟨by rw [e1]; decide, by rw [e2]; decide⟩
  have bx := fval_inf nx
  have by_ := fval_inf ny
  by_cases nc : isN c = true
  · exact absurd (mul_none_r a hc nc) hx
  rw [Bool.not_eq_true] at nc
  have ba := no_nan na
  have bb := no_nan nb
  have bc := no_nan nc
  have hIpos : 0 < infB := by decide
  have hIs := inf_sign
  have hcm : c % signB = c := Nat.mod_eq_of_lt hs
  have hcs : decide (signB ≤ c) = false := decide_eq_false (by omega)
  have mx := fmul_eq ha hc
  have my := fmul_eq hb hc
  unfold rMul at mx my
  rw [hcm, hcs, Bool.xor_false] at mx my
  -- what has the sign of the lesser
  have vneg : ∀ {u : Nat}, signB ≤ u → fval u = -((u % signB : Nat) : Int) := fun h => if_pos h
  have vpos : ∀ {u : Nat}, ¬ signB ≤ u → fval u = ((u % signB : Nat) : Int) := fun h => if_neg h
  by_cases ci : c = infB
  · have a0 : a % signB ≠ 0 := fun e => hx (by rw [mx, if_pos (.inr (.inr (.inr ⟨e, ci⟩)))])
    have b0 : b % signB ≠ 0 := fun e => hy (by rw [my, if_pos (.inr (.inr (.inr ⟨e, ci⟩)))])
    rw [if_neg (by omega), if_pos (.inr ci)] at mx
    rw [if_neg (by omega), if_pos (.inr ci)] at my
    rw [mx, my, fval_word _ (Nat.le_refl _), fval_word _ (Nat.le_refl _)]
    by_cases sa : signB ≤ a
    · rw [decide_eq_true sa, if_pos rfl]
      split <;> omega
    · rw [decide_eq_false sa, if_neg (by decide)]
      by_cases sb : signB ≤ b
      · exfalso
        rw [vpos sa, vneg sb] at h1
        omega
      · rw [decide_eq_false sb, if_neg (by decide)]
        omega
  have fc : c < infB := by omega
  by_cases c0 : c = 0
  · exfalso
    have ai : a % signB ≠ infB := fun e => hx (by rw [mx, if_pos (.inr (.inr (.inl ⟨e, c0⟩)))])
    have bi : b % signB ≠ infB := fun e => hy (by rw [my, if_pos (.inr (.inr (.inl ⟨e, c0⟩)))])
    rw [if_neg (by omega), if_neg (by omega), if_pos (.inr c0)] at mx
    rw [if_neg (by omega), if_neg (by omega), if_pos (.inr c0)] at my
    refine hz ⟨?_, ?_⟩
    · rw [mx]
      exact word_mod _ (by decide)
    · rw [my]
      exact word_mod _ (by decide)
  by_cases ai : a % signB = infB
  · rw [if_neg (by omega), if_pos (.inl ai)] at mx
    by_cases sa : signB ≤ a
    · rw [mx, decide_eq_true sa, fval_word _ (Nat.le_refl _), if_pos rfl]
      omega
    · have : b = a := by
        rw [vpos sa, ai] at h1
        by_cases sb : signB ≤ b
        · rw [vneg sb] at h1
          omega
        · rw [vpos sb] at h1
          unfold signB infB at *
          omega
      subst this
      exact Int.le_refl _
  by_cases bi : b % signB = infB
  · rw [if_neg (by omega), if_pos (.inl bi)] at my
    by_cases sb : signB ≤ b
    · exfalso
      rw [vneg sb, bi] at h1
      by_cases sa : signB ≤ a
      · rw [vneg sa] at h1
        omega
      · rw [vpos sa] at h1
        omega
    · rw [my, decide_eq_false sb, fval_word _ (Nat.le_refl _), if_neg (by decide)]
      omega
  have fa : Fin_ a := ⟨ha, by omega⟩
  have fb : Fin_ b := ⟨hb, by omega⟩
  have fC : Fin_ c := ⟨hc, by omega⟩
  have ex1 := mul_exact fa fC
  have ey1 := mul_exact fb fC
  rw [hcs, Bool.xor_false, hcm] at ex1 ey1
  rw [(nearest_is _ _ _).1] at ex1 ey1
  rw [ex1, ey1, fval_word _ (nearest_is false _ _).2, fval_word _ (nearest_is false _ _).2]
  have mono : ∀ {u v : Nat}, u < infB → v < infB → u ≤ v → rung (NN u * NN c) (-2148) ≤ rung (NN v * NN c) (-2148) := fun hu hv e => rung_mono _ (Nat.mul_le_mul_right _ ((NN_le hu hv).2 e))
  by_cases sa : signB ≤ a
  · rw [decide_eq_true sa, if_pos rfl]
    by_cases sb : signB ≤ b
    · rw [decide_eq_true sb, if_pos rfl]
      rw [vneg sa, vneg sb] at h1
      have := mono fb.2 fa.2 (by omega)
      omega
    · rw [decide_eq_false sb, if_neg (by decide)]
      omega
  · rw [decide_eq_false sa, if_neg (by decide)]
    by_cases sb : signB ≤ b
    · rw [decide_eq_true sb, if_pos rfl]
      rw [vpos sa, vneg sb] at h1
      have e1 : a % signB = 0 := by omega
      have e2 : b % signB = 0 := by omega
      rw [e1, e2, NN_zero, Nat.zero_mul, rung_none]
      decide
    · rw [decide_eq_false sb, if_neg (by decide)]
      rw [vpos sa, vpos sb] at h1
      have := mono fa.2 fb.2 (by omega)
      omega
end Go.Proofs.YtiidkgdlngcpgaaGreatDoor

namespace Go.Proofs.YtiidkgdlngcpgaaGreatDoor
open Ieee

/-- the value of a rung that is told by its place and its digits -/
theorem NN_of {k q : Nat} (hq : q ≤ 9007199254740992) (hk : k = 0 ∨ 4503599627370496 ≤ q) : NN (k * 4503599627370496 + q) = q * 2 ^ k := by
  unfold NN
  by_cases c : q < 4503599627370496
  · have h0 : k = 0 := by omega
    subst h0
    have e1 : takenE (0 * 4503599627370496 + q) = -1074 := if_pos (by omega)
    have e2 : takenM (0 * 4503599627370496 + q) = q := by
      unfold takenM
      rw [if_pos (by omega), Nat.zero_mul, Nat.zero_add]
    rw [e1, e2]
    rfl
  · by_cases d : q < 9007199254740992
    · have e1 : takenE (k * 4503599627370496 + q) = (k : Int) - 1074 := by
        unfold takenE
        rw [if_neg (by omega)]
        omega
      have e2 : takenM (k * 4503599627370496 + q) = q := by
        unfold takenM
        rw [if_neg (by omega)]
        omega
      rw [e1, e2]
      congr 2
      omega
    · have hq2 : q = 9007199254740992 := by omega
      have e1 : takenE (k * 4503599627370496 + q) = (k : Int) - 1073 := by
        unfold takenE
        rw [if_neg (by omega)]
        omega
      have e2 : takenM (k * 4503599627370496 + q) = 4503599627370496 := by
        unfold takenM
        rw [if_neg (by omega)]
        omega
      rw [e1, e2, hq2, show ((k : Int) - 1073 + 1074).toNat = k + 1 by omega, Nat.pow_succ, Nat.mul_comm (2 ^ k) 2, ← Nat.mul_assoc]

theorem half_near (N k : Nat) : 2 * (half N k * 2 ^ k) ≤ 2 * N + 2 ^ k ∧ 2 * N ≤ 2 * (half N k * 2 ^ k) + 2 ^ k := by
  by_cases hk : k = 0
  · subst hk
    rw [half_zero, Nat.pow_zero, Nat.mul_one]
    omega
  · rw [half_is (by omega)]
    unfold rndM
    have d := Nat.div_add_mod N (2 ^ k)
    have hlt := Nat.mod_lt N (Nat.two_pow_pos k)
    have hp := pow_split (n := k) (by omega)
    rw [Nat.mul_comm] at d
    obtain ⟨r, hr⟩ : ∃ r, r = N % 2 ^ k := ⟨_, rfl⟩
    obtain ⟨Q, hQ⟩ : ∃ Q, Q = N / 2 ^ k := ⟨_, rfl⟩
    obtain ⟨H, hH⟩ : ∃ H, H = 2 ^ (k - 1) := ⟨_, rfl⟩
    obtain ⟨P, hP⟩ : ∃ P, P = 2 ^ k := ⟨_, rfl⟩
    rw [← hr, ← hQ, ← hP] at d
    rw [← hr, ← hP] at hlt
    rw [← hP, ← hH] at hp
    rw [← hr, ← hQ, ← hP, ← hH]
    simp only [Bool.false_eq_true, false_or]
    by_cases c : H < r ∨ r = H ∧ Q % 2 = 1
    · rw [if_pos c, Nat.add_mul, Nat.one_mul]
      omega
    · rw [if_neg c, Nat.add_zero]
      omega

/-- a whole number of the least units, rounded: its place, its digits, and what is left out -/
theorem rung_near {N : Nat} (hN : N ≠ 0) (h : rung N (-1074) < infB) : ∃ k q : Nat, rung N (-1074) = k * 4503599627370496 + q ∧ q ≤ 9007199254740992 ∧ (k = 0 ∨ 4503599627370496 ≤ q) ∧ (k = 0 → q = N) ∧ (0 < k → 2 ^ (52 + k) ≤ N) ∧ 2 * (q * 2 ^ k) ≤ 2 * N + 2 ^ k ∧ 2 * N ≤ 2 * (q * 2 ^ k) + 2 ^ k ∧ N < 2 ^ (53 + k) := by
  have hr := rung_is (p := -1074) hN
  have hl : lastOf N (-1074) = max (N.log2 : Int) 52 - 1126 := by
    unfold lastOf
    omega
  obtain ⟨k, hk⟩ : ∃ k, k = N.log2 - 52 := ⟨_, rfl⟩
  have e1 : (lastOf N (-1074) + 1074).toNat = k := by omega
  have e2 : (-1074 - lastOf N (-1074)).toNat = 0 := by omega
  have e3 : (lastOf N (-1074) - -1074).toNat = k := by omega
  have kl := kept_le N (-1074)
  rw [e2, e3, Nat.pow_zero, Nat.mul_one] at kl
  rw [e1, e2, e3, Nat.pow_zero, Nat.mul_one] at hr
  obtain ⟨n1, n2⟩ := half_near N k
  have l1 := log_le N hN
  have l2 : N < 2 ^ (N.log2 + 1) := Nat.lt_log2_self
  refine ⟨k, half N k, by omega, kl, ?_, ?_, ?_, n1, n2, ?_⟩
  · by_cases h0 : k = 0
    · exact .inl h0
    · right
      have := kept_ge (p := -1074) hN (by omega)
      rw [e2, e3, Nat.pow_zero, Nat.mul_one] at this
      exact this
  · intro h0
    rw [h0, half_zero]
  · intro h0
    rw [show 52 + k = N.log2 by omega]
    exact l1
  · exact Nat.lt_of_lt_of_le l2 (Nat.pow_le_pow_right (by decide) (by omega))

/-- a sum that is finite: its place, its digits, and what it leaves out -/
theorem sum_near {a b : Nat} (ha : Fin_ a) (hb : Fin_ b) (hs : Fin_ (fadd a b)) : ∃ k q : Nat, fadd a b % signB = k * 4503599627370496 + q ∧ q ≤ 9007199254740992 ∧ (k = 0 ∨ 4503599627370496 ≤ q) ∧ (ex (fadd a b)).natAbs = q * 2 ^ k ∧ (k = 0 → ex (fadd a b) = ex a + ex b) ∧ (0 < k → 2 ^ (52 + k) ≤ (ex a + ex b).natAbs) ∧ 2 * (ex (fadd a b) - (ex a + ex b)).natAbs ≤ 2 ^ k ∧ (ex a + ex b).natAbs < 2 ^ (53 + k) := by
  have hv := fval_add ha hb
  obtain ⟨s, hs0⟩ : ∃ s, s = fadd a b := ⟨_, rfl⟩
  obtain ⟨T, hT⟩ : ∃ T, T = ex a + ex b := ⟨_, rfl⟩
  rw [← hs0] at hs hv ⊢
  rw [← hT] at hv ⊢
  have hI := hs.2
  by_cases h0 : T = 0
  · subst h0
    have hr0 : rounds 0 = 0 := by
      unfold rounds
      rw [if_neg (by decide)]
      show ((rung 0 (-1074) : Nat) : Int) = 0
      rw [rung_none]
      rfl
    rw [hr0] at hv
    have hx : s % signB = 0 := by
      unfold fval at hv
      split at hv <;> omega
    have he : ex s = 0 := by
      unfold ex
      rw [exact_NN, hx, NN_zero]
      split <;> rfl
    refine ⟨0, 0, by rw [hx], by decide, .inl rfl, by rw [he]; decide, fun _ => he, fun h => absurd h (by decide), by rw [he]; decide, by decide⟩
  · have hm := rung_mono (v := 1) (w := T.natAbs) (-1074) (by omega)
    rw [rung_one] at hm
    have hx : s % signB = rung T.natAbs (-1074) := by
      unfold rounds fval at hv
      split at hv <;> split at hv <;> omega
    obtain ⟨k, q, r1, r2, r3, r4, r5, r6, r7, r8⟩ := rung_near (N := T.natAbs) (by omega) (by omega)
    have hNN : NN (s % signB) = q * 2 ^ k := by
      rw [hx, r1]
      exact NN_of r2 r3
    have hS : ex s = if T < 0 then -((q * 2 ^ k : Nat) : Int) else ((q * 2 ^ k : Nat) : Int) := by
      unfold ex
      rw [exact_NN, hNN]
      unfold rounds fval at hv
      by_cases c : signB ≤ s
      · rw [decide_eq_true c, if_pos rfl]
        rw [if_pos c] at hv
        split at hv
        · rw [if_pos (by assumption)]
        · omega
      · rw [decide_eq_false c, if_neg (by decide)]
        rw [if_neg c] at hv
        split at hv
        · omega
        · rw [if_neg (by assumption)]
    obtain ⟨V, hV⟩ : ∃ V, V = q * 2 ^ k := ⟨_, rfl⟩
    rw [← hV] at hS r6 r7 hNN
    refine ⟨k, q, by rw [hx, r1], r2, r3, ?_, ?_, r5, ?_, r8⟩
    · rw [← hV, hS]
      split <;> omega
    · intro h
      have e1 := r4 h
      rw [h, Nat.pow_zero, Nat.mul_one] at hV
      rw [hS]
      split <;> omega
    · rw [hS]
      split <;> omega

theorem Rep.upto {m : Nat} {T : Int} (hm : m ≤ 9007199254740992) {k : Nat} (hk : k ≤ 2044) (h : T.natAbs = m * 2 ^ k) : Rep T := by
  by_cases c : m < 9007199254740992
  · exact Rep.of c (by omega) h
  · refine Rep.of (m := 4503599627370496) (by decide) (k := k + 1) (by omega) ?_
    rw [h, show m = 4503599627370496 * 2 by omega, Nat.mul_assoc, Nat.pow_succ, Nat.mul_comm 2]

/-- a finite number as digits at a place -/
theorem ex_digits {a : Nat} (ha : Fin_ a) : ∃ (m : Int) (i : Nat), ex a = m * ((2 ^ i : Nat) : Int) ∧ m.natAbs < 9007199254740992 ∧ i = (takenE (a % signB) + 1074).toNat := by
  refine ⟨if decide (signB ≤ a) = true then -(takenM (a % signB) : Int) else (takenM (a % signB) : Int), (takenE (a % signB) + 1074).toNat, ?_, ?_, rfl⟩
  · unfold ex
    rw [exact_NN]
    unfold NN
    split
    · rw [Int.neg_mul, Int.natCast_mul]
    · rw [Int.natCast_mul]
  · have := taken_lt (r := a % signB)
    split <;> omega

theorem times_lt {m c P : Nat} (h : m * P < c * P) : m < c := Nat.lt_of_mul_lt_mul_right h
theorem abs_mul (m : Int) (P : Nat) : (m * (P : Int)).natAbs = m.natAbs * P := by rw [Int.natAbs_mul, Int.natAbs_natCast]

theorem fin_abs {a : Nat} (ha : Fin_ a) : Fin_ (fabs a) ∧ ex (fabs a) = ((ex a).natAbs : Int) ∧ fabs a = a % signB := by
  have h1 : fabs a = a % signB := by
    unfold fabs
    rw [ha.no, if_neg (by decide)]
  have h2 := ha.2
  have hI := inf_sign
  rw [h1]
  have hm : a % signB % signB = a % signB := Nat.mod_mod _ _
  refine ⟨⟨by omega, by rw [hm]; exact h2⟩, ?_, rfl⟩
  unfold ex
  rw [exact_NN, exact_NN, hm, decide_eq_false (by omega), if_neg (by decide)]
  split <;> omega

/-- what a sum leaves out, and the difference of the sum and the greater one, are told exactly -/
theorem two_sum {A B S : Int} {i j k q : Nat} {m n : Int} (hA : A = m * ((2 ^ i : Nat) : Int)) (hm : m.natAbs < 9007199254740992) (hi : i ≤ 2044)
    (hB : B = n * ((2 ^ j : Nat) : Int)) (hn : n.natAbs < 9007199254740992) (hj : j ≤ i) (hle : B.natAbs ≤ A.natAbs)
    (hS : S.natAbs = q * 2 ^ k) (h0 : k = 0 → S = A + B) (h1 : 0 < k → 2 ^ (52 + k) ≤ (A + B).natAbs) (h2 : 2 * (S - (A + B)).natAbs ≤ 2 ^ k) : Rep (S - A) ∧ Rep (A + B - S) := by
  have rB : Rep B := Rep.of hn (k := j) (by omega) (by rw [hB, abs_mul])
  have r0 : Rep 0 := Rep.of (m := 0) (by decide) (k := 0) (by decide) (by simp)
  obtain ⟨σ, hσ⟩ : ∃ σ : Int, S = σ * ((2 ^ k : Nat) : Int) := by
    by_cases c : 0 ≤ S
    · exact ⟨q, by rw [← Int.natCast_mul, ← hS]; omega⟩
    · exact ⟨-q, by rw [Int.neg_mul, ← Int.natCast_mul, ← hS]; omega⟩
  by_cases hkj : k ≤ j
  · -- the sum is exact
    have hex : S = A + B := by
      by_cases hk0 : k = 0
      · exact h0 hk0
      · obtain ⟨u, hu⟩ : ∃ u, i = k + u := ⟨i - k, by omega⟩
        obtain ⟨v, hv⟩ : ∃ v, j = k + v := ⟨j - k, by omega⟩
        have hd : S - (A + B) = (σ - (m * ((2 ^ u : Nat) : Int) + n * ((2 ^ v : Nat) : Int))) * ((2 ^ k : Nat) : Int) := by
          rw [hσ, hA, hB, hu, hv, Int.sub_mul, Int.add_mul, Int.mul_assoc, Int.mul_assoc, ← Int.natCast_mul, ← Int.natCast_mul, ← Nat.pow_add, ← Nat.pow_add, Nat.add_comm u k, Nat.add_comm v k]
        obtain ⟨w, hw⟩ : ∃ w, w = σ - (m * ((2 ^ u : Nat) : Int) + n * ((2 ^ v : Nat) : Int)) := ⟨_, rfl⟩
        rw [← hw] at hd
        rw [hd, abs_mul] at h2
        have hp := Nat.two_pow_pos k
        have : w.natAbs < 1 := times_lt (P := 2 ^ k) (by omega)
        have hw0 : w = 0 := by omega
        rw [hw0, Int.zero_mul] at hd
        omega
    rw [hex]
    refine ⟨?_, ?_⟩
    · rw [show A + B - A = B by omega]
      exact rB
    · rw [Int.sub_self]
      exact r0
  · have hk1 : 0 < k := by omega
    have g1 := h1 hk1
    have tri1 : (S - A).natAbs ≤ B.natAbs + (S - (A + B)).natAbs := by omega
    have hAabs : A.natAbs = m.natAbs * 2 ^ i := by rw [hA, abs_mul]
    have hBabs : B.natAbs = n.natAbs * 2 ^ j := by rw [hB, abs_mul]
    obtain ⟨t, ht⟩ : ∃ t, k = j + 1 + t := ⟨k - j - 1, by omega⟩
    have hpj := Nat.two_pow_pos j
    have hpk := Nat.two_pow_pos k
    have hpi := Nat.two_pow_pos i
    have hjk : 2 * 2 ^ j ≤ 2 ^ k := by
      rw [Nat.mul_comm, ← Nat.pow_succ]
      exact Nat.pow_le_pow_right (by decide) (by omega)
    -- what is left out is a multiple of the lesser one's place
    have hmult : ∃ ν : Int, A + B - S = ν * ((2 ^ j : Nat) : Int) := by
      obtain ⟨u, hu⟩ : ∃ u, i = j + u := ⟨i - j, by omega⟩
      obtain ⟨v, hv⟩ : ∃ v, k = j + v := ⟨k - j, by omega⟩
      refine ⟨m * ((2 ^ u : Nat) : Int) + n - σ * ((2 ^ v : Nat) : Int), ?_⟩
      rw [hσ, hA, hB, hu, hv, Int.sub_mul, Int.add_mul, Int.mul_assoc, Int.mul_assoc, ← Int.natCast_mul, ← Int.natCast_mul, ← Nat.pow_add, ← Nat.pow_add, Nat.add_comm u j, Nat.add_comm v j]
    obtain ⟨ν, hν⟩ := hmult
    have small : (S - (A + B)).natAbs ≤ B.natAbs → Rep (A + B - S) := by
      intro h
      have e1 : (A + B - S).natAbs = ν.natAbs * 2 ^ j := by rw [hν, abs_mul]
      refine Rep.of (m := ν.natAbs) ?_ (k := j) (by omega) e1
      have e2 : ν.natAbs * 2 ^ j ≤ n.natAbs * 2 ^ j := by
        rw [← e1, ← hBabs]
        omega
      exact Nat.lt_of_le_of_lt (Nat.le_of_mul_le_mul_right e2 hpj) hn
    by_cases hki : k ≤ i
    · obtain ⟨u, hu⟩ : ∃ u, i = k + u := ⟨i - k, by omega⟩
      have hd : S - A = (σ - m * ((2 ^ u : Nat) : Int)) * ((2 ^ k : Nat) : Int) := by
        rw [hσ, hA, hu, Int.sub_mul, Int.mul_assoc, ← Int.natCast_mul, ← Nat.pow_add, Nat.add_comm u k]
      obtain ⟨μ, hμ⟩ : ∃ μ, μ = σ - m * ((2 ^ u : Nat) : Int) := ⟨_, rfl⟩
      rw [← hμ] at hd
      have e1 : (S - A).natAbs = μ.natAbs * 2 ^ k := by rw [hd, abs_mul]
      refine ⟨Rep.of (m := μ.natAbs) ?_ (k := k) (by omega) e1, ?_⟩
      · refine times_lt (P := 2 ^ k) ?_
        have e2 : 2 * (n.natAbs * 2 ^ j) ≤ 9007199254740992 * 2 ^ k := by
          calc 2 * (n.natAbs * 2 ^ j) = n.natAbs * (2 * 2 ^ j) := Nat.mul_left_comm _ _ _
            _ ≤ 9007199254740992 * 2 ^ k := Nat.mul_le_mul (by omega) hjk
        rw [← e1]
        omega
      · by_cases hb : 2 ^ k ≤ 2 * B.natAbs
        · exact small (by omega)
        · have e2 : μ.natAbs < 1 := times_lt (P := 2 ^ k) (by omega)
          have e3 : μ = 0 := by omega
          rw [e3, Int.zero_mul] at hd
          rw [show A + B - S = B by omega]
          exact rB
    · have hA2 : A.natAbs < 9007199254740992 * 2 ^ i := by
        rw [hAabs]
        exact Nat.mul_lt_mul_of_pos_right hm hpi
      have hlog : k ≤ i + 1 := by
        have e1 : 2 ^ (52 + k) < 2 ^ (54 + i) := by
          have : 2 ^ (54 + i) = 2 * (9007199254740992 * 2 ^ i) := by
            rw [Nat.pow_add, ← Nat.mul_assoc]
          omega
        have := (Nat.pow_lt_pow_iff_right (a := 2) (by decide)).1 e1
        omega
      have hk : k = i + 1 := by omega
      have hpk2 : 2 ^ k = 2 * 2 ^ i := by rw [hk, Nat.pow_succ, Nat.mul_comm]
      have hd : S - A = (σ * 2 - m) * ((2 ^ i : Nat) : Int) := by
        rw [hσ, hA, hpk2, Int.sub_mul, Int.natCast_mul, Int.mul_assoc]
        rfl
      have e1 : (S - A).natAbs = (σ * 2 - m).natAbs * 2 ^ i := by rw [hd, abs_mul]
      have hji : 2 ^ j ≤ 2 ^ i := Nat.pow_le_pow_right (by decide) hj
      refine ⟨Rep.upto (m := (σ * 2 - m).natAbs) ?_ hi e1, ?_⟩
      · have e2 : n.natAbs * 2 ^ j ≤ 9007199254740991 * 2 ^ i := Nat.mul_le_mul (by omega) hji
        have e3 : (σ * 2 - m).natAbs * 2 ^ i < 9007199254740993 * 2 ^ i := by
          rw [← e1]
          omega
        have := times_lt e3
        omega
      · by_cases hb : 2 ^ i ≤ B.natAbs
        · exact small (by omega)
        · exfalso
          have e2 : A.natAbs ≤ 9007199254740991 * 2 ^ i := by
            rw [hAabs]
            exact Nat.mul_le_mul_right _ (by omega)
          have e3 : 2 ^ (52 + k) = 9007199254740992 * 2 ^ i := by
            rw [hk, show 52 + (i + 1) = 53 + i by omega, Nat.pow_add]
          omega

theorem near_twice {x s : Int} {p : Nat} (h : 2 * (s - x).natAbs ≤ p) : ((x - s).natAbs : Int) + ((x - s).natAbs : Int) ≤ (p : Int) := by omega

/-- NumNearest, the greater one first -/
theorem nearest_half {a b : Nat} (ha : Fin_ a) (hb : Fin_ b) (hlt : a % signB < 9209861237972664320) (hle : b % signB ≤ a % signB) (fs : Fin_ (fadd a b)) (hfrac : fadd a b % signB % 4503599627370496 ≠ 0) :
    fless (fsub (fabs (fadd a b)) (fabs (fadd a b) - 1)) (fadd (fabs (fsub b (fsub (fadd a b) a))) (fabs (fsub b (fsub (fadd a b) a)))) = false := by
  obtain ⟨k, q, s1, s2, s3, s4, s5, s6, s7, s8⟩ := sum_near ha hb fs
  obtain ⟨m, i, a1, a2, a3⟩ := ex_digits ha
  obtain ⟨n, j, b1, b2, b3⟩ := ex_digits hb
  have hEi : i ≤ 2044 := by
    rw [a3]
    unfold takenE
    split <;> omega
  have hji : j ≤ i := by
    have := takenE_mono hle
    omega
  have habs : (ex b).natAbs ≤ (ex a).natAbs := by
    have e := (NN_le hb.2 ha.2).2 hle
    have ea : (ex a).natAbs = NN (a % signB) := by
      unfold ex
      rw [exact_NN]
      split <;> omega
    have eb : (ex b).natAbs = NN (b % signB) := by
      unfold ex
      rw [exact_NN]
      split <;> omega
    omega
  obtain ⟨r1, r2⟩ := two_sum a1 a2 hEi b1 b2 hji habs s4 s5 s6 s7
  obtain ⟨s, hs⟩ : ∃ s, s = fadd a b := ⟨_, rfl⟩
  rw [← hs] at s1 s4 s5 s7 r1 r2 fs hfrac ⊢
  obtain ⟨d1, d2⟩ := ex_exact (fsub_lt s a).1 (fval_sub fs ha) r1
  have hl := fval_sub hb d1
  rw [d2, show ex b - (ex s - ex a) = ex a + ex b - ex s by omega] at hl
  obtain ⟨l1, l2⟩ := ex_exact (fsub_lt b (fsub s a)).1 hl r2
  obtain ⟨t1, t2, _⟩ := fin_abs l1
  have hdbl := fval_add t1 t1
  obtain ⟨u1, u2, u3⟩ := fin_abs fs
  -- the gap below the sum
  have hq : k = 0 ∧ q ≠ 0 ∧ q < 9007199254740992 ∨ 4503599627370496 < q ∧ q < 9007199254740992 := by omega
  have hbelow : fabs s - 1 = k * 4503599627370496 + (q - 1) := by
    rw [u3]
    omega
  have hbI : fabs s - 1 < infB := by
    have := u1.2
    have := fs.2
    omega
  have hI := inf_sign
  have fb1 : Fin_ (fabs s - 1) := ⟨by omega, by rw [Nat.mod_eq_of_lt (by omega)]; exact hbI⟩
  have eb1 : ex (fabs s - 1) = (((q - 1) * 2 ^ k : Nat) : Int) := by
    have h1 : fabs s - 1 = D.word false (fabs s - 1) := (word_false _).symm
    rw [h1, ex_word false hbI, if_neg (by decide), hbelow, NN_of (by omega) (by omega)]
  have hgap : ex (fabs s) - ex (fabs s - 1) = ((2 ^ k : Nat) : Int) := by
    rw [u2, s4, eb1]
    obtain ⟨p, rfl⟩ : ∃ p, q = p + 1 := ⟨q - 1, by omega⟩
    rw [Nat.add_sub_cancel, Nat.add_mul, Nat.one_mul]
    omega
  have hlast := fval_sub u1 fb1
  rw [hgap] at hlast
  have hmono : fval (fadd (fabs (fsub b (fsub s a))) (fabs (fsub b (fsub s a)))) ≤ fval (fsub (fabs s) (fabs s - 1)) := by
    rw [hdbl, hlast, t2, l2]
    exact rounds_mono (near_twice s7)
  rw [fless_val (fsub_lt _ _).1 (fadd_lt _ _).1, decide_eq_false (Int.not_lt.2 hmono), Bool.and_false]
end Go.Proofs.YtiidkgdlngcpgaaGreatDoor

namespace Go.Proofs.YtiidkgdlngcpgaaGreatDoor
open Ieee

/-- a NaN that the machine draws -/
def drawnNaN (t : Nat) : Nat := (t % 2) * 2 ^ 63 + 0x7ff0000000000000 + 1 + (t / 2) % (2 ^ 52 - 1)
theorem drawn_nan (t : Nat) : isN (drawnNaN t) = true ∧ drawnNaN t < 2 * signB ∧ fcan (drawnNaN t) = nanB := by
  have h1 : drawnNaN t = (t % 2) * 9223372036854775808 + 9218868437227405312 + 1 + (t / 2) % 4503599627370495 := by
    unfold drawnNaN
    rfl
  have hx : t % 2 < 2 := Nat.mod_lt _ (by decide)
  have hy : (t / 2) % 4503599627370495 < 4503599627370495 := Nat.mod_lt _ (by decide)
  obtain ⟨x, ex⟩ : ∃ x, x = t % 2 := ⟨_, rfl⟩
  obtain ⟨y, ey⟩ : ∃ y, y = (t / 2) % 4503599627370495 := ⟨_, rfl⟩
  rw [← ex, ← ey] at h1
  rw [← ex] at hx
  rw [← ey] at hy
  clear ex ey
  have h2 : isN (drawnNaN t) = true := by
    rw [isN_iff, h1]
    unfold infB signB
    omega
  refine ⟨h2, ?_, ?_⟩
  · rw [h1]
    unfold signB
    omega
  · unfold fcan
    rw [if_pos h2]

section
variable {P : Program} (w : World)
theorem choose_nan (x y : Nat) : ∃ t, (choose (.nanBits .f64 x y)).run P w = .ok (drawnNaN t) w.drew := ⟨w.tape w.drawn (.nanBits .f64 x y), by rw [run_choose_drew]; rfl⟩

theorem nan_cut (x y t : Nat) : (Question.nanBits .f64 x y).cut t = drawnNaN t := rfl
theorem nan_free (x y : Nat) : (Question.nanBits .f64 x y).forced = false := rfl
theorem minmax_cut (b : Bool) (x y t : Nat) : (Question.nanMinMax .f64 b x y).cut t = drawnNaN t := rfl
theorem minmax_free (b : Bool) (x y : Nat) : (Question.nanMinMax .f64 b x y).forced = false := rfl
theorem drew_one : w.drew = w.drewN 1 := rfl
theorem drew_none : w = w.drewN 0 := rfl

theorem add_run (t : TypeId) (x y : Nat) : ∃ v n, v < 2 * signB ∧ fcan v = fadd x y ∧ (binOp .add t (.float .f64 x) (.float .f64 y)).run P w = .ok (.float .f64 v) (w.drewN n) := by
  have hl := fadd_lt x y
  cases h : D.add x y with
  | some r =>
    have e : fadd x y = r := by
      unfold fadd
      rw [h]
      rfl
    rw [e] at hl ⊢
    exact ⟨r, 0, hl.1, hl.2, run_float_arith w .add t .f64 x y r h⟩
  | none =>
    obtain ⟨u, hu⟩ : ∃ u, u = w.tape w.drawn (.nanBits .f64 x y) := ⟨_, rfl⟩
    have e : fadd x y = nanB := by
      unfold fadd
      rw [h]
      rfl
    have h' : FloatKind.f64.format.add x y = none := h
    refine ⟨drawnNaN u, 1, (drawn_nan u).2.1, (drawn_nan u).2.2.trans e.symm, ?_⟩
    simp [binOp, Op.floatArith, h', nan_cut, nan_free, hu]
    rfl
theorem sub_run (t : TypeId) (x y : Nat) : ∃ v n, v < 2 * signB ∧ fcan v = fsub x y ∧ (binOp .sub t (.float .f64 x) (.float .f64 y)).run P w = .ok (.float .f64 v) (w.drewN n) := by
  have hl := fsub_lt x y
  cases h : D.sub x y with
  | some r =>
    have e : fsub x y = r := by
      unfold fsub
      rw [h]
      rfl
    rw [e] at hl ⊢
    exact ⟨r, 0, hl.1, hl.2, run_float_arith w .sub t .f64 x y r h⟩
  | none =>
    obtain ⟨u, hu⟩ : ∃ u, u = w.tape w.drawn (.nanBits .f64 x y) := ⟨_, rfl⟩
    have e : fsub x y = nanB := by
      unfold fsub
      rw [h]
      rfl
    have h' : FloatKind.f64.format.sub x y = none := h
    refine ⟨drawnNaN u, 1, (drawn_nan u).2.1, (drawn_nan u).2.2.trans e.symm, ?_⟩
    simp [binOp, Op.floatArith, h', nan_cut, nan_free, hu]
    rfl
theorem mul_run (t : TypeId) (x y : Nat) : ∃ v n, v < 2 * signB ∧ fcan v = fmul x y ∧ (binOp .mul t (.float .f64 x) (.float .f64 y)).run P w = .ok (.float .f64 v) (w.drewN n) := by
  have hl := fmul_lt x y
  cases h : D.mul x y with
  | some r =>
    have e : fmul x y = r := by
      unfold fmul
      rw [h]
      rfl
    rw [e] at hl ⊢
    exact ⟨r, 0, hl.1, hl.2, run_float_arith w .mul t .f64 x y r h⟩
  | none =>
    obtain ⟨u, hu⟩ : ∃ u, u = w.tape w.drawn (.nanBits .f64 x y) := ⟨_, rfl⟩
    have e : fmul x y = nanB := by
      unfold fmul
      rw [h]
      rfl
    have h' : FloatKind.f64.format.mul x y = none := h
    refine ⟨drawnNaN u, 1, (drawn_nan u).2.1, (drawn_nan u).2.2.trans e.symm, ?_⟩
    simp [binOp, Op.floatArith, h', nan_cut, nan_free, hu]
    rfl
theorem div_run (t : TypeId) (x y : Nat) : ∃ v n, v < 2 * signB ∧ fcan v = fdiv x y ∧ (binOp .quo t (.float .f64 x) (.float .f64 y)).run P w = .ok (.float .f64 v) (w.drewN n) := by
  have hl := fdiv_lt x y
  cases h : D.div x y with
  | some r =>
    have e : fdiv x y = r := by
      unfold fdiv
      rw [h]
      rfl
    rw [e] at hl ⊢
    exact ⟨r, 0, hl.1, hl.2, run_float_arith w .quo t .f64 x y r h⟩
  | none =>
    obtain ⟨u, hu⟩ : ∃ u, u = w.tape w.drawn (.nanBits .f64 x y) := ⟨_, rfl⟩
    have e : fdiv x y = nanB := by
      unfold fdiv
      rw [h]
      rfl
    have h' : FloatKind.f64.format.div x y = none := h
    refine ⟨drawnNaN u, 1, (drawn_nan u).2.1, (drawn_nan u).2.2.trans e.symm, ?_⟩
    simp [binOp, Op.floatArith, h', nan_cut, nan_free, hu]
    rfl

theorem choose_minmax (b : Bool) (x y : Nat) : ∃ t, (choose (.nanMinMax .f64 b x y)).run P w = .ok (drawnNaN t) w.drew := ⟨w.tape w.drawn (.nanMinMax .f64 b x y), by rw [run_choose_drew]; rfl⟩

theorem order_some {x y : Nat} (hx : x < 2 * signB) (hy : y < 2 * signB) : D.order x y = none ↔ (isN x = true ∨ isN y = true) := by
  constructor
  · intro h
    by_cases c1 : isN x = true
    · exact .inl c1
    · by_cases c2 : isN y = true
      · exact .inr c2
      · rw [Bool.not_eq_true] at c1 c2
        rw [order_val hx hy c1 c2] at h
        cases h
  · exact order_nan hx hy

theorem fcan_plain {x : Nat} (h : isN x = false) : fcan x = x := by
  unfold fcan
  rw [h, if_neg (by decide)]

theorem min_run (ts : Array TypeId) (t : TypeId) {x y : Nat} (hx : x < 2 * signB) (hy : y < 2 * signB) : ∃ v n, v < 2 * signB ∧ fcan v = fmin x y ∧ (Builtin.min_ ts t #[.float .f64 x, .float .f64 y]).run P w = .ok (.float .f64 v) (w.drewN n) := by
  have hmin : Builtin.min_ ts t #[.float .f64 x, .float .f64 y] = Builtin.min2 (.float .f64 x) (.float .f64 y) := by
    simp [Builtin.min_]
  have ho := order_some hx hy
  cases h : D.order x y with
  | none =>
    obtain ⟨u, hu⟩ : ∃ u, u = w.tape w.drawn (.nanMinMax .f64 false x y) := ⟨_, rfl⟩
    have h' : FloatKind.f64.format.order x y = none := h
    have e : fmin x y = nanB := by
      unfold fmin
      rcases ho.1 h with c | c <;> simp [c]
    refine ⟨drawnNaN u, 1, (drawn_nan u).2.1, (drawn_nan u).2.2.trans e.symm, ?_⟩
    rw [hmin]
    simp [Builtin.min2, h', minmax_cut, minmax_free, hu]
    rfl
  | some o =>
    have hn : ¬ (isN x = true ∨ isN y = true) := fun c => by rw [ho.2 c] at h; cases h
    rw [not_or, Bool.not_eq_true, Bool.not_eq_true] at hn
    have h' : FloatKind.f64.format.order x y = some o := h
    have e : fmin x y = match (some o : Option Ordering) with
      | some .lt => x
      | some .gt => y
      | _ => if (D.read x).neg then x else y := by
      unfold fmin
      rw [hn.1, hn.2, h]
      rfl
    cases o with
    | lt => exact ⟨x, 0, hx, (fcan_plain hn.1).trans e.symm, by rw [hmin]; simp only [Builtin.min2, h']; rfl⟩
    | gt => exact ⟨y, 0, hy, (fcan_plain hn.2).trans e.symm, by rw [hmin]; simp only [Builtin.min2, h']; rfl⟩
    | eq =>
      by_cases c : (D.read x).neg = true
      · refine ⟨x, 0, hx, (fcan_plain hn.1).trans ?_, ?_⟩
        · rw [e]
          simp [c]
        · rw [hmin]
          have c' : (FloatKind.f64.decode x).neg = true := c
          simp only [Builtin.min2, h', c']
          rfl
      · refine ⟨y, 0, hy, (fcan_plain hn.2).trans ?_, ?_⟩
        · rw [e]
          simp [c]
        · rw [hmin]
          have c' : (FloatKind.f64.decode x).neg = false := by rw [Bool.not_eq_true] at c; exact c
          simp only [Builtin.min2, h', c']
          rfl
theorem max_run (ts : Array TypeId) (t : TypeId) {x y : Nat} (hx : x < 2 * signB) (hy : y < 2 * signB) : ∃ v n, v < 2 * signB ∧ fcan v = fmax x y ∧ (Builtin.max_ ts t #[.float .f64 x, .float .f64 y]).run P w = .ok (.float .f64 v) (w.drewN n) := by
  have hmax : Builtin.max_ ts t #[.float .f64 x, .float .f64 y] = Builtin.max2 (.float .f64 x) (.float .f64 y) := by
    simp [Builtin.max_]
  have ho := order_some hx hy
  cases h : D.order x y with
  | none =>
    obtain ⟨u, hu⟩ : ∃ u, u = w.tape w.drawn (.nanMinMax .f64 true x y) := ⟨_, rfl⟩
    have h' : FloatKind.f64.format.order x y = none := h
    have e : fmax x y = nanB := by
      unfold fmax
      rcases ho.1 h with c | c <;> simp [c]
    refine ⟨drawnNaN u, 1, (drawn_nan u).2.1, (drawn_nan u).2.2.trans e.symm, ?_⟩
    rw [hmax]
    simp [Builtin.max2, h', minmax_cut, minmax_free, hu]
    rfl
  | some o =>
    have hn : ¬ (isN x = true ∨ isN y = true) := fun c => by rw [ho.2 c] at h; cases h
    rw [not_or, Bool.not_eq_true, Bool.not_eq_true] at hn
    have h' : FloatKind.f64.format.order x y = some o := h
    have e : fmax x y = match (some o : Option Ordering) with
      | some .lt => y
      | some .gt => x
      | _ => if (D.read x).neg then y else x := by
      unfold fmax
      rw [hn.1, hn.2, h]
      rfl
    cases o with
    | lt => exact ⟨y, 0, hy, (fcan_plain hn.2).trans e.symm, by rw [hmax]; simp only [Builtin.max2, h']; rfl⟩
    | gt => exact ⟨x, 0, hx, (fcan_plain hn.1).trans e.symm, by rw [hmax]; simp only [Builtin.max2, h']; rfl⟩
    | eq =>
      by_cases c : (D.read x).neg = true
      · refine ⟨y, 0, hy, (fcan_plain hn.2).trans ?_, ?_⟩
        · rw [e]
          simp [c]
        · rw [hmax]
          have c' : (FloatKind.f64.decode x).neg = true := c
          simp only [Builtin.max2, h', c']
          rfl
      · refine ⟨x, 0, hx, (fcan_plain hn.1).trans ?_, ?_⟩
        · rw [e]
          simp [c]
        · rw [hmax]
          have c' : (FloatKind.f64.decode x).neg = false := by rw [Bool.not_eq_true] at c; exact c
          simp only [Builtin.max2, h', c']
          rfl
end
end Go.Proofs.YtiidkgdlngcpgaaGreatDoor

namespace Go.Proofs.YtiidkgdlngcpgaaGreatDoor
open Ieee

theorem fneg_lt {a : Nat} (ha : a < 2 * signB) : fneg a < 2 * signB := by
  unfold fneg
  split
  · exact nanB_lt
  · exact flip_lt ha
theorem fabs_lt {a : Nat} (_ : a < 2 * signB) : fabs a < 2 * signB := by
  unfold fabs
  split
  · exact nanB_lt
  · unfold signB
    omega
theorem ffloor_lt {a : Nat} (ha : a < 2 * signB) : ffloor a < 2 * signB := by
  by_cases hn : isN a = true
  · unfold ffloor
    rw [if_pos hn]
    exact nanB_lt
  · rw [Bool.not_eq_true] at hn
    by_cases hi : a % signB = infB
    · rw [ffloor_eq ha]
      unfold rFloor
      rw [hn, if_neg (by decide), if_pos (.inl hi)]
      exact ha
    · have := no_nan hn
      exact (floor_ex ⟨ha, by omega⟩).1.1
theorem fmin_lt {a b : Nat} (ha : a < 2 * signB) (hb : b < 2 * signB) : fmin a b < 2 * signB := by
  rw [fmin_eq ha hb]
  unfold rMin
  split
  · exact nanB_lt
  · split
    · exact ha
    · exact hb
theorem fmax_lt {a b : Nat} (ha : a < 2 * signB) (hb : b < 2 * signB) : fmax a b < 2 * signB := by
  rw [fmax_eq ha hb]
  unfold rMax
  split
  · exact nanB_lt
  · split
    · exact ha
    · exact hb
theorem fof_lt (n : Int) : fof n < 2 * signB := by
  unfold fof
  obtain ⟨h1, h2⟩ := nearest_is (decide (n < 0)) n.natAbs 0
  rw [h1]
  exact word_lt2 _ (Nat.lt_of_le_of_lt h2 inf_sign)
theorem fof_no (n : Int) : isN (fof n) = false := by
  unfold fof
  obtain ⟨h1, h2⟩ := nearest_is (decide (n < 0)) n.natAbs 0
  rw [h1]
  exact word_nan h2
theorem fadd_fin {a b : Nat} (ha : Fin_ a) (hb : Fin_ b) : isN (fadd a b) = false := by
  obtain ⟨wa, _⟩ := word_of ha.1
  obtain ⟨wb, _⟩ := word_of hb.1
  have h1 : D.read a = .number (decide (signB ≤ a)) (takenM (a % signB)) (takenE (a % signB)) := by
    have := read_num (decide (signB ≤ a)) ha.2
    rw [← wa] at this
    exact this
  have h2 : D.read b = .number (decide (signB ≤ b)) (takenM (b % signB)) (takenE (b % signB)) := by
    have := read_num (decide (signB ≤ b)) hb.2
    rw [← wb] at this
    exact this
  have h3 : ∃ d, (D.read a).sum (D.read b) = some d := by
    rw [h1, h2]
    exact ⟨_, rfl⟩
  obtain ⟨d, hd⟩ := h3
  unfold fadd Format.add
  rw [hd]
  exact (write_ok (sum_ok hd)).1
theorem order_three (a b : Nat) : forder a b = -1 ∨ forder a b = 0 ∨ forder a b = 1 := by
  unfold forder
  split
  · exact .inl rfl
  · split
    · exact .inr (.inr rfl)
    · exact .inr (.inl rfl)
/-- Int's two answers -/
def fintR (a : Nat) : Int × Int := match fint a with
  | some n => (n, 0)
  | none => (0, 11)
theorem plain_fin {a : Nat} (ha : a < 2 * signB) (h : fclass a = 4) : Fin_ a := ⟨ha, ((class_plain a).1 h).2⟩
theorem fabs_no {a : Nat} (fa : Fin_ a) : isN (fabs a) = false := (fin_abs fa).1.no
theorem fval_abs {a : Nat} (fa : Fin_ a) : fval (fabs a) = ((fabs a : Nat) : Int) := by
  rw [(fin_abs fa).2.2]
  unfold fval
  have : a % signB < signB := Nat.mod_lt _ (by decide)
  rw [if_neg (by omega), Nat.mod_eq_of_lt this]

/-- what stands above every finite number -/
theorem gt_max {b : Nat} (hb : b < signB) : (D.order b 9218868437227405311 == some .gt) = decide (b = infB) := by
  have hm : b % signB = b := Nat.mod_eq_of_lt hb
  by_cases hn : isN b = true
  · rw [order_nan (by omega) (by decide) (.inl hn)]
    have := (isN_iff b).1 hn
    rw [hm] at this
    rw [decide_eq_false (by omega)]
    rfl
  · rw [Bool.not_eq_true] at hn
    have h1 := no_nan hn
    rw [hm] at h1
    rw [order_val (by omega) (by decide) hn (by decide)]
    have hv : fval b = (b : Int) := by
      unfold fval
      rw [if_neg (by omega), hm]
    have hw : fval 9218868437227405311 = 9218868437227405311 := by decide
    rw [hv, hw]
    unfold infB at *
    by_cases c : b = 9218868437227405312
    · rw [decide_eq_true c, Int.compare_eq_gt.2 (by omega)]
      rfl
    · rw [decide_eq_false c]
      have : compare (b : Int) 9218868437227405311 ≠ .gt := fun e => by
        have := Int.compare_eq_gt.1 e
        omega
      cases h : compare (b : Int) 9218868437227405311
      · rfl
      · rfl
      · exact absurd h this
theorem eq_zero {b : Nat} (hb : b < 2 * signB) : (D.order b 0 == some .eq) = decide (b % signB = 0) := by
  have h := fequal_val hb (show 0 < 2 * signB by decide)
  have e : (D.order b 0 == some .eq) = fequal b 0 := by
    unfold fequal
    cases D.order b 0 with
    | none => rfl
    | some o => cases o <;> rfl
  rw [e, h]
  have hv : fval 0 = 0 := by decide
  rw [hv]
  by_cases hn : isN b = true
  · have := (isN_iff b).1 hn
    rw [hn, decide_eq_false (p := b % signB = 0) (by unfold infB at this; omega)]
    rfl
  · rw [Bool.not_eq_true] at hn
    rw [hn]
    have : (fval b = 0) ↔ (b % signB = 0) := by
      unfold fval
      split <;> omega
    simp only [this]
    simp
    intro h
    decide
theorem lt_tiny {b : Nat} (hb : b < signB) : (D.order b 4503599627370496 == some .lt) = decide (b < 4503599627370496) := by
  have hm : b % signB = b := Nat.mod_eq_of_lt hb
  have h := fless_val (show b < 2 * signB by omega) (show 4503599627370496 < 2 * signB by decide)
  have e : (D.order b 4503599627370496 == some .lt) = fless b 4503599627370496 := by
    unfold fless
    cases D.order b 4503599627370496 with
    | none => rfl
    | some o => cases o <;> rfl
  rw [e, h]
  have hw : fval 4503599627370496 = 4503599627370496 := by decide
  have hv : fval b = (b : Int) := by
    unfold fval
    rw [if_neg (by omega), hm]
  have hc : isN 4503599627370496 = false := by decide
  rw [hv, hw, hc]
  by_cases hn : isN b = true
  · have := (isN_iff b).1 hn
    rw [hm] at this
    rw [hn, decide_eq_false (p := b < 4503599627370496) (by unfold infB at this; omega)]
    rfl
  · rw [Bool.not_eq_true] at hn
    rw [hn]
    have : ((b : Int) < 4503599627370496) ↔ (b < 4503599627370496) := by omega
    simp only [this]
    rfl
theorem fless_is (a b : Nat) : fless a b = (D.order a b == some .lt) := by
  unfold fless
  cases D.order a b with
  | none => rfl
  | some o => cases o <;> rfl
theorem fequal_is (a b : Nat) : fequal a b = (D.order a b == some .eq) := by
  unfold fequal
  cases D.order a b with
  | none => rfl
  | some o => cases o <;> rfl

/-! ### forms that the machine's words take -/
theorem xor_top {r : Nat} (h : r < 2 ^ 63) : r ^^^ 2 ^ 63 = 2 ^ 63 + r := by
  refine Nat.eq_of_testBit_eq fun i => ?_
  rw [Nat.testBit_xor, Nat.testBit_two_pow]
  rcases Nat.lt_trichotomy i 63 with c | c | c
  · rw [Nat.testBit_two_pow_add_gt c, decide_eq_false (by omega), Bool.xor_false]
  · subst c
    rw [Nat.testBit_two_pow_add_eq, decide_eq_true rfl, Bool.xor_true]
  · have h1 : 2 ^ 63 + r < 2 ^ i := Nat.lt_of_lt_of_le (show 2 ^ 63 + r < 2 ^ 64 by omega) (Nat.pow_le_pow_right (by decide) (by omega))
    rw [Nat.testBit_lt_two_pow h1, Nat.testBit_lt_two_pow (show r < 2 ^ i by omega), decide_eq_false (by omega)]
    rfl
theorem xor_flip {a : Nat} (ha : a < 2 * signB) : a ^^^ 2 ^ 63 = flipW a := by
  have h63 : (2 : Nat) ^ 63 = signB := by decide
  unfold flipW
  by_cases c : a < signB
  · rw [if_pos c, xor_top (by omega), h63]
    omega
  · rw [if_neg c]
    have h1 := xor_top (r := a - signB) (by omega)
    have h2 : 2 ^ 63 + (a - signB) = a := by omega
    rw [h2] at h1
    have h3 : a ^^^ 2 ^ 63 = ((a - signB) ^^^ 2 ^ 63) ^^^ 2 ^ 63 := by rw [h1]
    rw [h3, Nat.xor_assoc, Nat.xor_self, Nat.xor_zero]
theorem neg_is {a : Nat} (ha : a < 2 * signB) : fcan (Op.negFloat .f64 a) = fneg a := by
  have h : Op.negFloat .f64 a = flipW a := xor_flip ha
  rw [h]
  unfold fcan fneg
  rw [isN_flip ha]
theorem abs_is (a : Nat) : fcan (a % signB) = fabs a := by
  unfold fcan fabs
  rw [isN_mod]
theorem of_is (n : Int) : fcan (floatOfInt .f64 n) = fof n := by
  have h : floatOfInt .f64 n = fof n := rfl
  rw [h]
  exact fcan_plain (fof_no n)
theorem floor_is {a : Nat} (h : isN a = false) : FloatKind.f64.format.write ((FloatKind.f64.format.read a).integral .down) = ffloor a := by
  unfold ffloor
  rw [h, if_neg (by decide)]
  rfl
theorem floor_no {a : Nat} (ha : a < 2 * signB) (h : isN a = false) : isN (ffloor a) = false := by
  by_cases hi : a % signB = infB
  · rw [ffloor_eq ha]
    unfold rFloor
    rw [h, if_neg (by decide), if_pos (.inl hi)]
    exact h
  · have := no_nan h
    exact (floor_ex ⟨ha, by omega⟩).1.no
theorem geq_is (a b : Nat) : fgeq a b = (D.order a b == some .gt || D.order a b == some .eq) := by
  unfold fgeq
  cases D.order a b with
  | none => rfl
  | some o => cases o <;> rfl
/-- where all tests of Int hold, the conversion gives a number -/
theorem fint_all {a : Nat} (ha : a < 2 * signB) (h1 : fequal a (ffloor a) = true) (h2 : fgeq a c63n = true) (h3 : fless a c63 = true) : ∃ n, floatToIntVal .f64 a .i64 = some n ∧ fint a = some n ∧ -9223372036854775808 ≤ n ∧ n ≤ 9223372036854775807 := by
  have hf := finite_of_bounds ha h2 h3
  have hl := floor_ex hf
  have e1 := h1
  rw [fequal_val ha hl.1.1, Bool.and_eq_true] at e1
  obtain ⟨k, hk⟩ := (whole_iff hf).1 (of_decide_eq_true e1.2)
  have g2 := h2
  have g3 := h3
  rw [fgeq_val ha c63n_ex.1.1, Bool.and_eq_true] at g2
  rw [fless_val ha c63_ex.1.1, Bool.and_eq_true] at g3
  have b1 := (ex_le c63n_ex.1 hf).1 (of_decide_eq_true g2.2)
  have b2 := (ex_lt hf c63_ex.1).1 (of_decide_eq_true g3.2)
  rw [c63n_ex.2, hk, ← Int.neg_mul] at b1
  rw [c63_ex.2, hk] at b2
  have b3 := mulU_le.1 b1
  have b4 := mulU_lt.1 b2
  have h63 : ((2 ^ 63 : Nat) : Int) = 9223372036854775808 := by decide
  have hs := fint_some hf hk (by omega) (by omega)
  refine ⟨k, ?_, hs, by omega, by omega⟩
  unfold fint at hs
  rw [h1, h2, h3] at hs
  exact hs
theorem fint_no {a : Nat} (h : (fequal a (ffloor a) && (fgeq a c63n && fless a c63)) = false) : fintR a = (0, 11) := by
  unfold fintR fint
  rw [h]
  rfl
theorem fint_yes {a : Nat} {n : Int} (h : fint a = some n) : fintR a = (n, 0) := by
  unfold fintR
  rw [h]
theorem can_lt {a : Nat} (ha : a < 2 * signB) : fcan a < 2 * signB := by
  unfold fcan
  split
  · exact nanB_lt
  · exact ha

/-! ### the machine's floor -/
theorem read_isN2 {a : Nat} (h : a < 2 * signB) (hn : isN a = true) : ∃ s f, D.read a = .nan s f ∧ f < 4503599627370496 := by
  obtain ⟨wa, la⟩ := word_of h
  have h1 := (isN_iff a).1 hn
  have h2 := read_word (decide (signB ≤ a)) (a % signB) la
  rw [← wa] at h2
  unfold infB signB at *
  rw [if_neg (by omega), if_neg (by omega), if_neg (by omega)] at h2
  exact ⟨_, _, h2, by omega⟩
theorem quiet_ok (s : Bool) {t : Nat} (h : t < 4503599627370496) : isN (D.write (.nan s (D.quiet t))) = true ∧ D.write (.nan s (D.quiet t)) < 2 * signB := by
  have h1 : D.quiet t < 4503599627370496 := Nat.or_lt_two_pow (n := 52) h (by decide)
  have h2 : 2251799813685248 ≤ D.quiet t := Nat.right_le_or (n := t) (m := 2251799813685248)
  have hw : D.write (.nan s (D.quiet t)) = D.word s (infB + D.quiet t) := by
    show D.word s (D.infRung + D.quiet t % D.binade) = _
    rw [D_inf, D_bin, Nat.mod_eq_of_lt h1]
    rfl
  have hr : infB + D.quiet t < signB := by
    unfold infB signB
    omega
  rw [hw]
  refine ⟨?_, word_lt2 s hr⟩
  unfold isN
  rw [word_mod s hr]
  exact decide_eq_true (by omega)
theorem choose_two {P : Program} (w : World) (nm : String) : ∃ k, (choose (.extern nm 2)).run P w = .ok k w.drew := ⟨(Question.extern nm 2).cut (w.tape w.drawn (.extern nm 2)), by rw [run_choose_drew]; rfl⟩
theorem integral_form (nm : String) (a : Nat) : Go.Extern.MathFloor.toIntegral nm .down #[.float .f64 a] = (match FloatKind.f64.decode a with
    | .nan s t =>
      if FloatKind.f64.format.quiet t = t then pure (.float .f64 a) else do
      let kept ← choose (.extern "math.Floor,Ceil,Trunc,RoundToEven.signallingNaN kept" 2)
      pure (.float .f64 (if kept == 1 then a else FloatKind.f64.encode (.nan s (FloatKind.f64.format.quiet t))))
    | d => pure (.float .f64 (FloatKind.f64.encode (d.integral .down)))) := rfl
theorem floor_run {P : Program} (w : World) {a : Nat} (ha : a < 2 * signB) : ∃ v n, v < 2 * signB ∧ fcan v = ffloor a ∧ isN v = isN a ∧ (isN a = false → v = ffloor a) ∧
    (Go.Extern.MathFloor.toIntegral "math.archFloor" .down #[.float .f64 a]).run P w = .ok (.float .f64 v) (w.drewN n) := by
  cases hn : isN a with
  | true =>
    obtain ⟨s, t, hr, ht⟩ := read_isN2 ha hn
    have hr' : FloatKind.f64.decode a = .nan s t := hr
    have hfl : ffloor a = nanB := by
      unfold ffloor
      rw [if_pos hn]
    have hno : true = false → a = ffloor a := fun e => by cases e
    have one : ∀ v, isN v = true → fcan v = ffloor a := fun v hv => by
      rw [hfl]
      unfold fcan
      rw [if_pos hv]
    by_cases hq : FloatKind.f64.format.quiet t = t
    · refine ⟨a, 0, ha, one a hn, hn, hno, ?_⟩
      rw [integral_form, hr']
      simp only [if_pos hq]
      rfl
    · obtain ⟨k, hk⟩ := choose_two (P := P) w "math.Floor,Ceil,Trunc,RoundToEven.signallingNaN kept"
      obtain ⟨q1, q2⟩ := quiet_ok s ht
      by_cases hk1 : (k == 1) = true
      · refine ⟨a, 1, ha, one a hn, hn, hno, ?_⟩
        rw [integral_form, hr']
        simp only [if_neg hq, Sem.run_bind, hk, Result.andThen_ok, if_pos hk1]
        rfl
      · refine ⟨_, 1, q2, one _ q1, q1, (fun e => nomatch e), ?_⟩
        rw [integral_form, hr']
        simp only [if_neg hq, Sem.run_bind, hk, Result.andThen_ok, if_neg hk1]
        rfl
  | false =>
    have h1 := read_nan ha
    rw [hn] at h1
    have hfl := floor_is hn
    refine ⟨ffloor a, 0, ffloor_lt ha, fcan_plain (floor_no ha hn), floor_no ha hn, fun _ => rfl, ?_⟩
    have hfl' : FloatKind.f64.encode ((FloatKind.f64.decode a).integral .down) = ffloor a := hfl
    cases hd : FloatKind.f64.decode a with
    | nan s t =>
      have : D.read a = .nan s t := hd
      rw [this] at h1
      cases h1
    | number s m e =>
      rw [hd] at hfl'
      rw [integral_form, hd]
      simp only [hfl']
      rfl
    | infinity s =>
      rw [hd] at hfl'
      rw [integral_form, hd]
      simp only [hfl']
      rfl

end Go.Proofs.YtiidkgdlngcpgaaGreatDoor

namespace Go.Proofs.YtiidkgdlngcpgaaGreatDoor
open Go.RowKit Ieee

theorem ex_amount (a : Nat) : ex a = if signB ≤ a then -((NN (a % signB) : Nat) : Int) else ((NN (a % signB) : Nat) : Int) := by
  unfold ex exact NN
  rw [signed_up]
  by_cases c : signB ≤ a
  · rw [decide_eq_true c, if_pos c, if_pos rfl]
  · rw [decide_eq_false c, if_neg c, if_neg (by decide)]
theorem fint_none {a : Nat} (h : ∀ n, fint a ≠ some n) : fintR a = (0, 11) := by
  unfold fintR
  cases hf : fint a with
  | none => rfl
  | some n => exact absurd hf (h n)
theorem int_inf {a : Nat} (ha : a < 2 * signB) (h : infB ≤ a % signB) : fintR a = (0, 11) := fint_none fun n hn => by
  have := (fint_back ha hn).1.2
  omega
theorem int_zero {a : Nat} (ha : a < 2 * signB) (h : a % signB < infB) (h0 : takenM (a % signB) = 0) : fintR a = (0, 0) := by
  refine fint_yes (fint_some (n := 0) ⟨ha, h⟩ ?_ (by decide) (by decide))
  rw [ex_amount]
  unfold NN
  rw [h0, Nat.zero_mul]
  simp
theorem abs_ex (a : Nat) : (ex a).natAbs = NN (a % signB) := by
  rw [ex_amount]
  split <;> omega

def intR (a o : Nat) (E : Int) : Int × Int :=
  if E < 0 ∨ 63 < E then (0, 11)
  else if signB ≤ a then (if o * 2 ^ E.toNat ≤ signB then (-((o * 2 ^ E.toNat : Nat) : Int), 0) else (0, 11))
  else (if o * 2 ^ E.toNat < signB then (((o * 2 ^ E.toNat : Nat) : Int), 0) else (0, 11))

theorem int_odd {a o t : Nat} (ha : a < 2 * signB) (hr : a % signB < infB) (hm : takenM (a % signB) = o * 2 ^ t) (ho : o % 2 = 1) :
    fintR a = intR a o (takenE (a % signB) + t) := by
  have hge := takenE_ge (a % signB)
  obtain ⟨d, hd⟩ : ∃ d : Nat, d = (takenE (a % signB) + 1074).toNat := ⟨_, rfl⟩
  have hN : NN (a % signB) = o * 2 ^ (t + d) := by
    unfold NN
    rw [hm, ← hd, Nat.mul_assoc, ← Nat.pow_add]
  have hab := abs_ex a
  rw [hN] at hab
  obtain ⟨E, hE⟩ : ∃ E : Int, E = takenE (a % signB) + t := ⟨_, rfl⟩
  rw [← hE]
  have hEd : E + 1074 = ((t + d : Nat) : Int) := by omega
  obtain ⟨e, he, hU⟩ := Un_def
  have hopos : 0 < o := by omega
  unfold intR
  by_cases c : E < 0 ∨ 63 < E
  · rw [if_pos c]
    refine fint_none fun n hn => ?_
    obtain ⟨_, hx, hn1, hn2⟩ := fint_back ha hn
    rw [hx, Int.natAbs_mul] at hab
    have hab2 : n.natAbs * 2 ^ e = o * 2 ^ (t + d) := by
      rw [← hab, hU]
      rfl
    rcases c with c | c
    · have hk : e = (t + d) + (e - (t + d) - 1 + 1) := by omega
      rw [hk, Nat.pow_add, Nat.pow_succ] at hab2
      have h3 : n.natAbs * (2 ^ (e - (t + d) - 1) * 2) = o := by
        refine Nat.eq_of_mul_eq_mul_right (show 0 < 2 ^ (t + d) from Nat.pow_pos (by decide)) ?_
        rw [← hab2, Nat.mul_assoc, Nat.mul_comm (2 ^ (t + d))]
      rw [← h3, ← Nat.mul_assoc, Nat.mul_mod_left] at ho
      omega
    · have hk : t + d = (E.toNat - 64 + 64) + e := by omega
      rw [hk, Nat.pow_add, Nat.pow_add, ← Nat.mul_assoc] at hab2
      have h3 : n.natAbs = o * (2 ^ (E.toNat - 64) * 2 ^ 64) := Nat.eq_of_mul_eq_mul_right (Nat.pow_pos (by decide)) hab2
      have h4 : 1 * (1 * 2 ^ 64) ≤ o * (2 ^ (E.toNat - 64) * 2 ^ 64) := Nat.mul_le_mul hopos (Nat.mul_le_mul_right _ (Nat.pow_pos (by decide)))
      have h5 : (1 * (1 * 2 ^ 64) : Nat) = 18446744073709551616 := by decide
      omega
  · rw [if_neg c]
    have hk : t + d = E.toNat + e := by omega
    obtain ⟨v, hv⟩ : ∃ v, v = o * 2 ^ E.toNat := ⟨_, rfl⟩
    have hNv : NN (a % signB) = v * Un := by
      rw [hN, hk, Nat.pow_add, ← Nat.mul_assoc, ← hv, hU]
    rw [← hv]
    have hex := ex_amount a
    rw [hNv] at hex
    have hback : ∀ n : Int, fint a = some n → n = if signB ≤ a then -(v : Int) else (v : Int) := fun n hn => by
      obtain ⟨_, hx, _, _⟩ := fint_back ha hn
      rw [hx] at hex
      by_cases cs : signB ≤ a
      · rw [if_pos cs] at hex ⊢
        refine mulU_eq.1 ?_
        rw [hex, Int.natCast_mul, Int.neg_mul]
      · rw [if_neg cs] at hex ⊢
        refine mulU_eq.1 ?_
        rw [hex, Int.natCast_mul]
    by_cases cs : signB ≤ a
    · rw [if_pos cs] at hex ⊢
      by_cases cv : v ≤ signB
      · rw [if_pos cv]
        refine fint_yes (fint_some ⟨ha, hr⟩ ?_ (by unfold signB at cv; omega) (by omega))
        rw [hex, Int.natCast_mul, Int.neg_mul]
      · rw [if_neg cv]
        refine fint_none fun n hn => ?_
        have h1 := hback n hn
        obtain ⟨_, _, h2, h3⟩ := fint_back ha hn
        rw [if_pos cs] at h1
        unfold signB at cv
        omega
    · rw [if_neg cs] at hex ⊢
      by_cases cv : v < signB
      · rw [if_pos cv]
        refine fint_yes (fint_some ⟨ha, hr⟩ ?_ (by omega) (by unfold signB at cv; omega))
        rw [hex, Int.natCast_mul]
      · rw [if_neg cv]
        refine fint_none fun n hn => ?_
        have h1 := hback n hn
        obtain ⟨_, _, h2, h3⟩ := fint_back ha hn
        rw [if_neg cs] at h1
        unfold signB at cv
        omega
end Go.Proofs.YtiidkgdlngcpgaaGreatDoor

namespace Go.Proofs.YtiidkgdlngcpgaaGreatDoor
open Go.RowKit Ieee

theorem word_f (x : Nat) : D.word false x = x := by
  unfold Format.word
  simp
theorem mul_taken {x y : Nat} (hx : x < infB) (hy : y < infB) : fmul x y = D.nearest false (takenM x * takenM y) (takenE x + takenE y) := by
  have h1 := read_num false hx
  have h2 := read_num false hy
  rw [word_f] at h1 h2
  unfold fmul Format.mul
  rw [h1, h2]
  simp only [Datum.product, Option.map_some, Option.getD_some]
  rfl

/-- the amount with its leading bit in place -/
def mant (r : Nat) : Nat := takenM r * 2 ^ (52 - (takenM r).log2)
theorem log52 {r : Nat} (h0 : r ≠ 0) : (takenM r).log2 ≤ 52 := by
  have h := (Nat.log2_lt (k := 53) (Nat.pos_iff_ne_zero.1 (takenM_pos h0))).2 (show takenM r < 2 ^ 53 from taken_lt)
  omega
theorem mant_range {r : Nat} (h0 : r ≠ 0) : 4503599627370496 ≤ mant r ∧ mant r < 9007199254740992 := by
  have hl := log52 h0
  have hp := Nat.pos_iff_ne_zero.1 (takenM_pos h0)
  have h1 := log_le (takenM r) hp
  have h2 : takenM r < 2 ^ ((takenM r).log2 + 1) := Nat.lt_log2_self
  unfold mant
  obtain ⟨m, hm⟩ : ∃ m, m = takenM r := ⟨_, rfl⟩
  rw [← hm] at hl h1 h2 ⊢
  obtain ⟨L, hL⟩ : ∃ L, L = m.log2 := ⟨_, rfl⟩
  rw [← hL] at hl h1 h2 ⊢
  have e1 : 2 ^ L * 2 ^ (52 - L) = 4503599627370496 := by
    rw [← Nat.pow_add, show L + (52 - L) = 52 by omega]
  have e2 : 2 ^ (L + 1) * 2 ^ (52 - L) = 9007199254740992 := by
    rw [← Nat.pow_add, show L + 1 + (52 - L) = 53 by omega]
  have h3 := Nat.mul_le_mul_right (2 ^ (52 - L)) h1
  have h4 := Nat.mul_lt_mul_of_pos_right h2 (show 0 < 2 ^ (52 - L) from Nat.pow_pos (by decide))
  omega
theorem mant_big {r : Nat} (h : 4503599627370496 ≤ r) : mant r = 4503599627370496 + r % 4503599627370496 ∧ (takenM r).log2 = 52 ∧ takenE r = ((r / 4503599627370496 : Nat) : Int) - 1075 ∧ takenM r = 4503599627370496 + r % 4503599627370496 := by
  have h0 : r ≠ 0 := by omega
  have e : takenM r = 4503599627370496 + r % 4503599627370496 := by
    unfold takenM
    rw [if_neg (by omega)]
  have hl : (takenM r).log2 = 52 := log2_is (by rw [e]; omega) (by rw [e]; omega)
  refine ⟨?_, hl, ?_, e⟩
  · unfold mant
    rw [hl, e, Nat.sub_self, Nat.pow_zero, Nat.mul_one]
  · unfold takenE
    rw [if_neg (by omega)]
theorem mant_small {r : Nat} (h : r < 4503599627370496) : takenM r = r ∧ takenE r = -1074 := by
  unfold takenM takenE
  rw [if_pos h, if_pos h]
  exact ⟨rfl, rfl⟩

/-- what normalize makes of an amount above 0 -/
def nrm (r : Nat) : Nat := if r < 4503599627370496 then r.log2 * 4503599627370496 + mant r else r
theorem nrm_mul {r : Nat} (h0 : r ≠ 0) (h : r < 4503599627370496) : fmul r 4841369599423283200 = nrm r := by
  obtain ⟨em, ee⟩ := mant_small h
  have hl := log52 h0
  have hmr := mant_range h0
  rw [em] at hl
  have hm : mant r = r * 2 ^ (52 - r.log2) := by
    unfold mant
    rw [em]
  have hL52 : r.log2 < 52 := (Nat.log2_lt h0).2 h
  rw [mul_taken (by unfold infB; omega) (by decide), em, ee, show takenM 4841369599423283200 = 2 ^ 52 by decide, show takenE 4841369599423283200 = 0 by decide]
  obtain ⟨R, hR⟩ : ∃ R, R = nrm r := ⟨_, rfl⟩
  have hRv : R = r.log2 * 4503599627370496 + mant r := by
    rw [hR]
    unfold nrm
    rw [if_pos h]
  have hRi : R < infB := by
    unfold infB
    omega
  obtain ⟨b1, b2, b3, b4⟩ := mant_big (r := R) (by omega)
  rw [← hR]
  refine Eq.trans ?_ ((nearest_taken false hRi).trans (word_f R))
  have e1 : r * 2 ^ 52 = takenM R * 2 ^ r.log2 := by
    rw [b4, show 4503599627370496 + R % 4503599627370496 = mant r by omega, hm, Nat.mul_assoc, ← Nat.pow_add, show 52 - r.log2 + r.log2 = 52 by omega]
  rw [e1]
  refine nearest_scale false ?_ ?_
  · rw [b4]
    omega
  · rw [b3]
    omega
theorem nrm_bits {r : Nat} (h0 : r ≠ 0) : nrm r % 4503599627370496 = mant r - 4503599627370496 ∧ ((nrm r / 4503599627370496 : Nat) : Int) + (if r < 4503599627370496 then -52 else 0) = takenE r + ((takenM r).log2 : Int) + 1 + 1022 ∧ (r < infB → nrm r < infB) ∧ 4503599627370496 ≤ nrm r := by
  have hmr := mant_range h0
  unfold nrm
  by_cases h : r < 4503599627370496
  · obtain ⟨em, ee⟩ := mant_small h
    have hL52 : r.log2 < 52 := (Nat.log2_lt h0).2 h
    rw [if_pos h, if_pos h, em, ee]
    unfold infB
    refine ⟨by omega, by omega, by omega, by omega⟩
  · obtain ⟨b1, b2, b3, b4⟩ := mant_big (r := r) (by omega)
    rw [if_neg h, if_neg h, b2, b3]
    refine ⟨by omega, by omega, fun h => h, by omega⟩

theorem mul_one {v : Nat} (h : v < infB) (h52 : 4503599627370496 ≤ v) : fmul 4607182418800017408 v = v := by
  rw [mul_taken (by decide) h, show takenM 4607182418800017408 = 2 ^ 52 by decide, show takenE 4607182418800017408 = -52 by decide]
  refine Eq.trans ?_ ((nearest_taken false h).trans (word_f v))
  rw [Nat.mul_comm]
  refine nearest_scale false (takenM_pos (by omega)) ?_
  omega

/-- what Ldexp answers, of a float with its leading bit in place -/
def ldx (r : Nat) (n : Int) : Nat := D.nearest false (takenM r) (takenE r + n)
theorem bitLen_53 {m : Nat} (h1 : 4503599627370496 ≤ m) (h2 : m < 9007199254740992) : bitLen m = 53 := by
  rw [bitLen_pos (by omega), log2_is (k := 52) h1 h2]
theorem ldexp_law {r : Nat} {n : Int} (h52 : 4503599627370496 ≤ r) (_ : r < infB) {X : Int} (hX : X = n + ((r / 4503599627370496 : Nat) : Int) - 1023) :
    ldx r n = if X < -1075 then 0 else if 1023 < X then infB else if X < -1022 then fmul 4368491638549381120 ((X + 1076).toNat * 4503599627370496 + r % 4503599627370496) else (X + 1023).toNat * 4503599627370496 + r % 4503599627370496 := by
  obtain ⟨b1, b2, b3, b4⟩ := mant_big h52
  unfold ldx
  have hM1 : 4503599627370496 ≤ takenM r := by omega
  have hM2 : takenM r < 9007199254740992 := taken_lt
  have hb := bitLen_53 hM1 hM2
  have h127 : takenM r < 2 ^ 127 := Nat.lt_trans hM2 (by decide)
  rw [b3, show ((r / 4503599627370496 : Nat) : Int) - 1075 + n = X - 52 by omega]
  by_cases c1 : X < -1075
  · rw [if_pos c1, ← rnd_nearest false (X - 52) (by omega) h127]
    unfold rnd rndR
    have hq : rndQ (takenM r) (X - 52) = -1074 := by
      unfold rndQ
      rw [hb, if_pos (by omega)]
    rw [hq, word_f]
    by_cases c2 : 127 < -1074 - (X - 52)
    · rw [if_pos c2]
    · rw [if_neg c2]
      simp only
      rw [if_neg (show ¬ -1074 - (X - 52) ≤ 0 by omega), if_neg (by omega)]
      obtain ⟨k, hk⟩ : ∃ k, k = (-1074 - (X - 52)).toNat := ⟨_, rfl⟩
      have hk54 : 54 ≤ k := by omega
      rw [← hk]
      have hlt : takenM r < 2 ^ (k - 1) := Nat.lt_of_lt_of_le hM2 (Nat.le_trans (by decide) (Nat.pow_le_pow_right (n := 2) (by decide) (show 53 ≤ k - 1 by omega)))
      have hlt2 : takenM r < 2 ^ k := Nat.lt_of_lt_of_le hlt (Nat.pow_le_pow_right (by decide) (by omega))
      have hz : rndM (takenM r) k false = 0 := by
        unfold rndM
        rw [Nat.div_eq_of_lt hlt2, Nat.mod_eq_of_lt hlt2, if_neg (by omega)]
      rw [hz]
      rfl
  rw [if_neg c1]
  by_cases c2 : 1023 < X
  · rw [if_pos c2, ← rnd_nearest false (X - 52) (by omega) h127]
    unfold rnd rndR
    have hq : rndQ (takenM r) (X - 52) = X - 52 := by
      unfold rndQ
      rw [hb, if_neg (by omega)]
      omega
    rw [hq, word_f, if_neg (by omega)]
    simp only
    rw [if_pos (by omega)]
  rw [if_neg c2]
  by_cases c3 : X < -1022
  · rw [if_pos c3]
    obtain ⟨v, hv⟩ : ∃ v, v = (X + 1076).toNat * 4503599627370496 + r % 4503599627370496 := ⟨_, rfl⟩
    rw [← hv]
    have hvi : v < infB := by
      unfold infB
      omega
    obtain ⟨d1, d2, d3, d4⟩ := mant_big (r := v) (by omega)
    rw [mul_taken (by decide) hvi, show takenM 4368491638549381120 = 2 ^ 52 by decide, show takenE 4368491638549381120 = -105 by decide, d3, d4, b4, Nat.mul_comm]
    refine (Eq.symm ?_)
    rw [show v % 4503599627370496 = r % 4503599627370496 by omega]
    refine nearest_scale false (by omega) ?_
    omega
  · rw [if_neg c3]
    obtain ⟨v, hv⟩ : ∃ v, v = (X + 1023).toNat * 4503599627370496 + r % 4503599627370496 := ⟨_, rfl⟩
    rw [← hv]
    have hvi : v < infB := by
      unfold infB
      omega
    obtain ⟨d1, d2, d3, d4⟩ := mant_big (r := v) (by omega)
    refine Eq.trans ?_ ((nearest_taken false hvi).trans (word_f v))
    rw [d3, d4, b4, show v % 4503599627370496 = r % 4503599627370496 by omega, show ((v / 4503599627370496 : Nat) : Int) - 1075 = X - 52 by omega]

/-- a whole amount with its leading bit in place, as a float, and back -/
theorem whole_float {M : Nat} (h1 : 4503599627370496 ≤ M) (h2 : M < 9007199254740992) : floatToIntVal .f64 (4836865999795912704 + M) .u64 = some (M : Int) := by
  obtain ⟨v, hv⟩ : ∃ v, v = 4836865999795912704 + M := ⟨_, rfl⟩
  rw [← hv]
  have hvi : v < infB := by
    unfold infB
    omega
  have hvs : v % signB = v := Nat.mod_eq_of_lt (by unfold signB; omega)
  obtain ⟨d1, d2, d3, d4⟩ := mant_big (r := v) (by omega)
  have hf : Fin_ v := ⟨by unfold signB; omega, by rw [hvs]; exact hvi⟩
  have hex : ex v = (M : Int) * (Un : Int) := by
    rw [ex_amount, if_neg (by unfold signB; omega), hvs]
    unfold NN
    obtain ⟨e, he, hU⟩ := Un_def
    rw [d4, d3, show 4503599627370496 + v % 4503599627370496 = M by omega, show (((v / 4503599627370496 : Nat) : Int) - 1075 + 1074).toNat = e by omega, hU, Int.natCast_mul]
  have ht := toInt_whole hf hex
  unfold floatToIntVal
  show (match (D.read v).toInt .zero with | some n => _ | none => _) = _
  rw [ht]
  simp only
  rw [if_pos]
  constructor
  · show (0 : Int) ≤ _
    omega
  · show (M : Int) ≤ 18446744073709551615
    omega

theorem odd_unique : ∀ (t u : Nat) {o p : Nat}, o * 2 ^ t = p * 2 ^ u → o % 2 = 1 → p % 2 = 1 → o = p ∧ t = u
  | 0, 0, o, p, h, _, _ => ⟨by simpa using h, rfl⟩
  | 0, u + 1, o, p, h, ho, _ => by
    rw [Nat.pow_zero, Nat.mul_one, Nat.pow_succ, ← Nat.mul_assoc] at h
    omega
  | t + 1, 0, o, p, h, _, hp => by
    rw [Nat.pow_zero, Nat.mul_one, Nat.pow_succ, ← Nat.mul_assoc] at h
    omega
  | t + 1, u + 1, o, p, h, ho, hp => by
    rw [Nat.pow_succ, Nat.pow_succ, ← Nat.mul_assoc, ← Nat.mul_assoc] at h
    obtain ⟨h1, h2⟩ := odd_unique t u (show o * 2 ^ t = p * 2 ^ u by omega) ho hp
    exact ⟨h1, by omega⟩

/-- an amount's odd part, and how often 2 divides it -/
theorem ctz_split {m : Nat} (h0 : m ≠ 0) (h : m < 18446744073709551616) : m = m / 2 ^ Lib.ctz 64 m * 2 ^ Lib.ctz 64 m ∧ m / 2 ^ Lib.ctz 64 m % 2 = 1 ∧ Lib.ctz 64 m < 64 := by
  obtain ⟨q, hq, hk⟩ := Lib.ctzFrom_spec 64 m (by omega) h
  have e : Lib.ctz 64 m = Lib.ctzFrom 64 m := by simp [Lib.ctz, h0]
  rw [e]
  have hd : m / 2 ^ Lib.ctzFrom 64 m = 2 * q + 1 := by
    obtain ⟨c, hc⟩ : ∃ c, c = Lib.ctzFrom 64 m := ⟨_, rfl⟩
    rw [← hc] at hq ⊢
    rw [hq, Nat.mul_div_cancel_left _ (Nat.pow_pos (by decide))]
  rw [hd]
  exact ⟨by rw [Nat.mul_comm]; exact hq, by omega, hk⟩
def oddM (r : Nat) : Nat := takenM r / 2 ^ Lib.ctz 64 (takenM r)
def oddE (r : Nat) : Int := takenE r + (Lib.ctz 64 (takenM r) : Int)
theorem odd_split {r : Nat} (h0 : r ≠ 0) : takenM r = oddM r * 2 ^ Lib.ctz 64 (takenM r) ∧ oddM r % 2 = 1 ∧ Lib.ctz 64 (takenM r) < 64 :=
  ctz_split (Nat.pos_iff_ne_zero.1 (takenM_pos h0)) (Nat.lt_trans taken_lt (by decide))
/-- the same, of the amount with its leading bit in place -/
theorem mant_odd {r : Nat} (h0 : r ≠ 0) : mant r / 2 ^ Lib.ctz 64 (mant r) = oddM r ∧ takenE r + ((takenM r).log2 : Int) + 1 - 53 + (Lib.ctz 64 (mant r) : Int) = oddE r ∧ Lib.ctz 64 (mant r) < 64 := by
  have hmr := mant_range h0
  obtain ⟨s1, s2, s3⟩ := ctz_split (m := mant r) (by omega) (by omega)
  obtain ⟨q1, q2, q3⟩ := odd_split h0
  have hl := log52 h0
  have he : mant r = oddM r * 2 ^ (Lib.ctz 64 (takenM r) + (52 - (takenM r).log2)) := by
    rw [Nat.pow_add, ← Nat.mul_assoc, ← q1]
    rfl
  obtain ⟨u1, u2⟩ := odd_unique _ _ (s1.symm.trans he) s2 q2
  refine ⟨u1, ?_, s3⟩
  unfold oddE
  rw [u2]
  omega

/-- the text of a number -/
def ftext (a : Nat) : List UInt8 :=
  if isN a then [110, 97, 110]
  else (if signB ≤ a then [45] else []) ++ (if a % signB = infB then [105, 110, 102] else if a % signB = 0 then [48] else Lib.decDigits (oddM (a % signB)) ++ 112 :: Lib.itoa (oddE (a % signB)))
theorem ftext_can {a : Nat} : ftext (fcan a) = ftext a := by
  unfold fcan
  by_cases h : isN a = true
  · rw [if_pos h]
    unfold ftext
    rw [if_pos h, if_pos (by decide)]
  · rw [if_neg h]
end Go.Proofs.YtiidkgdlngcpgaaGreatDoor
