/- Floats, plain: no program in sight: what the operations of IEEE 754 keep. -/
import Derived.Laws.FloatArith
set_option maxRecDepth 100000
namespace Go.Proofs.YtjloiclbknfomaaDoor
open Ieee

/-- the format of float64 -/
abbrev D : Format := double
def nanB : Nat := 9221120237041090561
def signB : Nat := 9223372036854775808
def infB : Nat := 9218868437227405312

theorem D_sw : D.signWeight = 9223372036854775808 := by decide
theorem D_bin : D.binade = 4503599627370496 := by decide
theorem D_inf : D.infRung = 9218868437227405312 := by decide
theorem D_least : D.leastPlace = -1074 := by decide

/-- a word with the other sign -/
def flipW (a : Nat) : Nat := if a < signB then a + signB else a - signB

theorem flip_lt {a : Nat} (h : a < 2 * signB) : flipW a < 2 * signB := by
  unfold flipW signB at *
  split <;> omega
theorem flip_flip {a : Nat} (h : a < 2 * signB) : flipW (flipW a) = a := by
  unfold flipW signB at *
  split <;> split <;> omega

theorem word_flip (s : Bool) (r : Nat) (h : r < signB) : D.word (!s) r = flipW (D.word s r) := by
  unfold Format.word flipW
  rw [D_sw]
  unfold signB at *
  cases s
  · simp only [Bool.not_false, if_true, Bool.false_eq_true, if_false]
    rw [if_pos h]
    omega
  · simp only [Bool.not_true, if_true, Bool.false_eq_true, if_false]
    rw [if_neg (by omega)]
    omega

theorem nearest_rung (_ : Bool) (m : Nat) (e : Int) : ∃ r, r ≤ infB ∧ ∀ s', D.nearest s' m e = D.word s' r := by
  unfold Format.nearest
  by_cases hm : m = 0
  · exact ⟨0, by decide, fun s' => by rw [if_pos hm]⟩
  · refine ⟨min (((max (e + m.log2 - D.fractionBits) D.leastPlace) - D.leastPlace).toNat * D.binade + Toward.even.cut false (m <<< (e - max (e + m.log2 - D.fractionBits) D.leastPlace).toNat) (max (e + m.log2 - D.fractionBits) D.leastPlace - e).toNat) D.infRung, ?_, fun s' => by rw [if_neg hm]; rfl⟩
    rw [← show D.infRung = infB from D_inf]
    exact Nat.min_le_right _ _

theorem write_flip (d : Datum) : D.write d.opposite = flipW (D.write d) := by
  cases d with
  | number s m e =>
    obtain ⟨r, hr, h⟩ := nearest_rung s m e
    show D.nearest (!s) m e = flipW (D.nearest s m e)
    rw [h, h]
    exact word_flip s r (Nat.lt_of_le_of_lt hr (by decide))
  | infinity s =>
    show D.word (!s) D.infRung = flipW (D.word s D.infRung)
    exact word_flip s _ (by rw [D_inf]; decide)
  | nan s t =>
    show D.word (!s) (D.infRung + t % D.binade) = flipW (D.word s (D.infRung + t % D.binade))
    refine word_flip s _ ?_
    rw [D_inf, D_bin]
    unfold signB
    omega

/-- what a word stands for, by its sign and its rung -/
theorem read_word (s : Bool) (r : Nat) (hr : r < signB) : D.read (D.word s r) =
    if r < 4503599627370496 then .number s r (-1074)
    else if r < 9218868437227405312 then .number s (4503599627370496 + r % 4503599627370496) (-1074 + ((r / 4503599627370496 - 1 : Nat) : Int))
    else if r = 9218868437227405312 then .infinity s
    else .nan s (r - 9218868437227405312) := by
  have h1 : (D.word s r) % 9223372036854775808 = r := by
    unfold Format.word
    rw [D_sw]
    unfold signB at hr
    cases s <;> simp <;> omega
  have h2 : ((D.word s r) / 9223372036854775808 % 2 == 1) = s := by
    unfold Format.word
    rw [D_sw]
    unfold signB at hr
    cases s
    · simp
      omega
    · simp
      omega
  unfold Format.read
  simp only [D_sw, D_bin, D_inf, D_least, h1, h2]

theorem word_of {a : Nat} (h : a < 2 * signB) : a = D.word (decide (signB ≤ a)) (a % signB) ∧ a % signB < signB := by
  unfold Format.word
  rw [D_sw]
  unfold signB at *
  refine ⟨?_, Nat.mod_lt _ (by decide)⟩
  by_cases h2 : 9223372036854775808 ≤ a
  · simp [h2]
    omega
  · simp [h2]
    omega

theorem read_flip {a : Nat} (h : a < 2 * signB) : D.read (flipW a) = (D.read a).opposite := by
  obtain ⟨h1, h2⟩ := word_of h
  rw [h1, ← word_flip _ _ h2, read_word _ _ h2, read_word _ _ h2]
  split
  · rfl
  split
  · rfl
  split <;> rfl

theorem sum_comm (x y : Datum) : x.sum y = y.sum x := by
  cases x with
  | number s m i =>
    cases y with
    | number t n j =>
      simp only [Datum.sum]
      rw [Int.min_comm i j, Int.add_comm (signed s m _) _, Bool.and_comm s t]
    | infinity t => rfl
    | nan t f => rfl
  | infinity s =>
    cases y with
    | number t n j => rfl
    | infinity t =>
      simp only [Datum.sum]
      by_cases h : s = t
      · subst h
        rfl
      · rw [if_neg h, if_neg (fun e => h e.symm)]
    | nan t f => rfl
  | nan s f =>
    cases y with
    | number t n j => rfl
    | infinity t => rfl
    | nan t f' => rfl

theorem product_comm (x y : Datum) : x.product y = y.product x := by
  cases x with
  | number s m i =>
    cases y with
    | number t n j =>
      simp only [Datum.product]
      rw [Bool.xor_comm s t, Nat.mul_comm m n, Int.add_comm i j]
    | infinity t => rfl
    | nan t f => rfl
  | infinity s =>
    cases y with
    | number t n j => rfl
    | infinity t =>
      simp only [Datum.product]
      rw [Bool.xor_comm]
    | nan t f => rfl
  | nan s f =>
    cases y with
    | number t n j => rfl
    | infinity t => rfl
    | nan t f' => rfl

theorem signed_not (s : Bool) (m up : Nat) : signed (!s) m up = -signed s m up := by
  unfold signed
  cases s <;> simp

/-- a sum of opposites is the opposite, but where it is a zero -/
theorem sum_opposite (x y : Datum) : (x.opposite.sum y.opposite = (x.sum y).map Datum.opposite) ∨ ((∃ z e, x.sum y = some (.number z 0 e)) ∧ ∃ z e, x.opposite.sum y.opposite = some (.number z 0 e)) := by
  cases x with
  | number s m i =>
    cases y with
    | number t n j =>
      simp only [Datum.sum, Datum.opposite, signed_not]
      obtain ⟨A, hA⟩ : ∃ A, A = signed s m (i - min i j).toNat := ⟨_, rfl⟩
      obtain ⟨B, hB⟩ : ∃ B, B = signed t n (j - min i j).toNat := ⟨_, rfl⟩
      rw [← hA, ← hB]
      by_cases h0 : A + B = 0
      · right
        have h1 : -A + -B = 0 := by omega
        simp only [h0, h1, if_true, Int.natAbs_zero]
        exact ⟨⟨_, _, rfl⟩, ⟨_, _, rfl⟩⟩
      · left
        have h1 : ¬ (-A + -B = 0) := by omega
        simp only [h0, h1, if_false, Option.map_some, Datum.opposite]
        have h2 : (-A + -B).natAbs = (A + B).natAbs := by omega
        rw [h2]
        congr 2
        by_cases h3 : A + B < 0
        · have : ¬ (-A + -B < 0) := by omega
          simp [h3, this]
        · have : (-A + -B < 0) := by omega
          simp [h3, this]
    | infinity t => exact .inl rfl
    | nan t f => exact .inl rfl
  | infinity s =>
    cases y with
    | number t n j => exact .inl rfl
    | infinity t =>
      left
      simp only [Datum.sum, Datum.opposite]
      cases s <;> cases t <;> rfl
    | nan t f => exact .inl rfl
  | nan s f =>
    cases y with
    | number t n j => exact .inl rfl
    | infinity t => exact .inl rfl
    | nan t f' => exact .inl rfl

theorem opp_opp (x : Datum) : x.opposite.opposite = x := by cases x <;> simp [Datum.opposite]

theorem product_opposite (x y : Datum) : x.opposite.product y = (x.product y).map Datum.opposite := by
  cases x with
  | number s m i =>
    cases y with
    | number t n j => simp [Datum.product, Datum.opposite]
    | infinity t =>
      simp only [Datum.product, Datum.opposite]
      split <;> simp [Datum.opposite]
    | nan t f => rfl
  | infinity s =>
    cases y with
    | number t n j =>
      simp only [Datum.product, Datum.opposite]
      split <;> simp [Datum.opposite]
    | infinity t => simp [Datum.product, Datum.opposite]
    | nan t f => rfl
  | nan s f =>
    cases y with
    | number t n j => rfl
    | infinity t => rfl
    | nan t f' => rfl

theorem quotient_opposite (d : Nat) (x y : Datum) : x.opposite.quotient d y = (x.quotient d y).map Datum.opposite := by
  cases x with
  | number s m i =>
    cases y with
    | number t n j =>
      simp only [Datum.quotient, Datum.opposite]
      by_cases hn : n = 0
      · rw [if_pos hn, if_pos hn]
        by_cases hm : m = 0
        · rw [if_pos hm, if_pos hm]; rfl
        · rw [if_neg hm, if_neg hm]; simp [Datum.opposite]
      · rw [if_neg hn, if_neg hn]; simp [Datum.opposite]
    | infinity t => simp [Datum.quotient, Datum.opposite]
    | nan t f => rfl
  | infinity s =>
    cases y with
    | number t n j => simp [Datum.quotient, Datum.opposite]
    | infinity t => rfl
    | nan t f => rfl
  | nan s f =>
    cases y with
    | number t n j => rfl
    | infinity t => rfl
    | nan t f' => rfl

/-! ### The operations of package num, plain -/
def isN (a : Nat) : Bool := decide (infB < a % signB)
def fcan (a : Nat) : Nat := if isN a then nanB else a
def fneg (a : Nat) : Nat := if isN a then nanB else flipW a
def fabs (a : Nat) : Nat := if isN a then nanB else a % signB
def fadd (a b : Nat) : Nat := (D.add a b).getD nanB
def fsub (a b : Nat) : Nat := (D.sub a b).getD nanB
def fmul (a b : Nat) : Nat := (D.mul a b).getD nanB
def fdiv (a b : Nat) : Nat := (D.div a b).getD nanB

theorem isN_nan : isN nanB = true := by decide
theorem nanB_lt : nanB < 2 * signB := by decide
theorem word_mod (s : Bool) {r : Nat} (h : r < signB) : (D.word s r) % signB = r := by
  unfold Format.word
  rw [D_sw]
  unfold signB at *
  cases s
  · simp
    omega
  · simp
    omega
theorem word_lt2 (s : Bool) {r : Nat} (h : r < signB) : D.word s r < 2 * signB := by
  unfold Format.word
  rw [D_sw]
  unfold signB at *
  cases s
  · simp
    omega
  · simp
    omega

/-- what a word stands for is no NaN just if its rung is not above infinity's -/
theorem read_nan {a : Nat} (h : a < 2 * signB) : (D.read a).isNaN = isN a := by
  obtain ⟨h1, h2⟩ := word_of h
  rw [h1, read_word _ _ h2]
  unfold isN
  rw [word_mod _ h2]
  unfold infB
  split
  · simp [Datum.isNaN]
    omega
  split
  · simp [Datum.isNaN]
    omega
  split
  · rename_i e
    rw [e]
    simp [Datum.isNaN]
  · simp [Datum.isNaN]
    omega

/-- a datum that an operation answers: no NaN -/
theorem write_ok {d : Datum} (h : d.isNaN = false) : isN (D.write d) = false ∧ D.write d < 2 * signB := by
  cases d with
  | number s m e =>
    obtain ⟨r, hr, hw⟩ := nearest_rung s m e
    have hr2 : r < signB := Nat.lt_of_le_of_lt hr (by decide)
    show isN (D.nearest s m e) = false ∧ D.nearest s m e < 2 * signB
    rw [hw]
    refine ⟨?_, word_lt2 s hr2⟩
    unfold isN
    rw [word_mod s hr2]
    exact decide_eq_false (by omega)
  | infinity s =>
    show isN (D.word s D.infRung) = false ∧ D.word s D.infRung < 2 * signB
    rw [D_inf]
    have hr2 : 9218868437227405312 < signB := by decide
    refine ⟨?_, word_lt2 s hr2⟩
    unfold isN
    rw [word_mod s hr2]
    exact decide_eq_false (by unfold infB; omega)
  | nan s t => simp [Datum.isNaN] at h

theorem sum_ok {x y d : Datum} (h : x.sum y = some d) : d.isNaN = false := by
  cases x <;> cases y <;> simp only [Datum.sum] at h
  all_goals first
    | (injection h with h; subst h; rfl)
    | (split at h <;> first | (injection h with h; subst h; rfl) | cases h)
    | cases h
theorem product_ok {x y d : Datum} (h : x.product y = some d) : d.isNaN = false := by
  cases x <;> cases y <;> simp only [Datum.product] at h
  all_goals first
    | (injection h with h; subst h; rfl)
    | (split at h <;> first | (injection h with h; subst h; rfl) | cases h)
    | cases h
theorem quotient_ok {x y d : Datum} {n : Nat} (h : x.quotient n y = some d) : d.isNaN = false := by
  cases x <;> cases y <;> simp only [Datum.quotient] at h
  all_goals first
    | (injection h with h; subst h; rfl)
    | (split at h <;> first | (injection h with h; subst h; rfl) | (split at h <;> first | (injection h with h; subst h; rfl) | cases h) | cases h)
    | cases h

theorem neg_write {d : Datum} (h : d.isNaN = false) : fneg (D.write d) = D.write d.opposite := by
  unfold fneg
  rw [(write_ok h).1, write_flip, if_neg (by decide)]
theorem neg_nan : fneg nanB = nanB := by decide

theorem fadd_comm (a b : Nat) : fadd a b = fadd b a := by
  unfold fadd Format.add
  rw [sum_comm]
theorem fmul_comm (a b : Nat) : fmul a b = fmul b a := by
  unfold fmul Format.mul
  rw [product_comm]

theorem zero_write (z : Bool) (e : Int) : D.write (.number z 0 e) % signB = 0 := by
  show D.nearest z 0 e % signB = 0
  unfold Format.nearest
  rw [if_pos rfl, word_mod z (by decide)]

/-- NumTurns' third -/
theorem fsub_turn (a b : Nat) : fsub a b % signB = 0 ∨ fsub b a = fneg (fsub a b) := by
  unfold fsub Format.sub
  generalize D.read a = x
  generalize D.read b = y
  have e : y.sum x.opposite = x.opposite.sum y.opposite.opposite := by rw [opp_opp, sum_comm]
  rw [e]
  rcases sum_opposite x y.opposite with h | ⟨⟨z, p, h⟩, _⟩
  · right
    rw [h]
    cases hs : x.sum y.opposite with
    | none => simp [neg_nan]
    | some d => simp [neg_write (sum_ok hs)]
  · left
    rw [h]
    simp [zero_write]

/-- a word that is a NaN stands for one -/
theorem read_isN {a : Nat} (h : a < 2 * signB) (hn : isN a = true) : ∃ s f, D.read a = .nan s f := by
  have := read_nan h
  rw [hn] at this
  cases hr : D.read a with
  | number s m e => rw [hr] at this; simp [Datum.isNaN] at this
  | infinity s => rw [hr] at this; simp [Datum.isNaN] at this
  | nan s f => exact ⟨s, f, rfl⟩

theorem sum_nan_l {s : Bool} {f : Nat} (y : Datum) : (Datum.nan s f).sum y = none := by cases y <;> rfl
theorem sum_nan_r {s : Bool} {f : Nat} (x : Datum) : x.sum (Datum.nan s f) = none := by cases x <;> rfl
theorem product_nan_l {s : Bool} {f : Nat} (y : Datum) : (Datum.nan s f).product y = none := by cases y <;> rfl
theorem product_nan_r {s : Bool} {f : Nat} (x : Datum) : x.product (Datum.nan s f) = none := by cases x <;> rfl
theorem quotient_nan_l {s : Bool} {f n : Nat} (y : Datum) : (Datum.nan s f).quotient n y = none := by cases y <;> rfl
theorem quotient_nan_r {s : Bool} {f n : Nat} (x : Datum) : x.quotient n (Datum.nan s f) = none := by cases x <;> rfl

/-- a function of two data that a NaN makes none -/
theorem can_two {F : Datum → Datum → Option Datum} (hl : ∀ s f y, F (.nan s f) y = none) (hr : ∀ s f x, F x (.nan s f) = none) {a b : Nat} (ha : a < 2 * signB) (hb : b < 2 * signB) : F (D.read (fcan a)) (D.read (fcan b)) = F (D.read a) (D.read b) := by
  obtain ⟨s0, f0, h0⟩ := read_isN nanB_lt isN_nan
  unfold fcan
  by_cases h1 : isN a = true
  · obtain ⟨s, f, h⟩ := read_isN ha h1
    rw [if_pos h1, h0, h, hl, hl]
  · rw [if_neg h1]
    by_cases h2 : isN b = true
    · obtain ⟨s, f, h⟩ := read_isN hb h2
      rw [if_pos h2, h0, h, hr, hr]
    · rw [if_neg h2]

theorem fadd_can {a b : Nat} (ha : a < 2 * signB) (hb : b < 2 * signB) : fadd (fcan a) (fcan b) = fadd a b := by
  unfold fadd Format.add
  rw [can_two (F := Datum.sum) (fun _ _ y => sum_nan_l y) (fun _ _ x => sum_nan_r x) ha hb]
theorem fsub_can {a b : Nat} (ha : a < 2 * signB) (hb : b < 2 * signB) : fsub (fcan a) (fcan b) = fsub a b := by
  unfold fsub Format.sub
  rw [can_two (F := fun x y => Datum.sum x y.opposite) (fun _ _ y => sum_nan_l _) (fun _ _ x => sum_nan_r x) ha hb]
theorem fmul_can {a b : Nat} (ha : a < 2 * signB) (hb : b < 2 * signB) : fmul (fcan a) (fcan b) = fmul a b := by
  unfold fmul Format.mul
  rw [can_two (F := Datum.product) (fun _ _ y => product_nan_l y) (fun _ _ x => product_nan_r x) ha hb]
theorem fdiv_can {a b : Nat} (ha : a < 2 * signB) (hb : b < 2 * signB) : fdiv (fcan a) (fcan b) = fdiv a b := by
  unfold fdiv Format.div
  rw [can_two (F := fun x y => Datum.quotient (D.fractionBits + 2) x y) (fun _ _ y => quotient_nan_l y) (fun _ _ x => quotient_nan_r x) ha hb]

theorem isN_flip {a : Nat} (h : a < 2 * signB) : isN (flipW a) = isN a := by
  unfold isN flipW
  congr 2
  unfold signB at *
  split <;> omega

/-- what is told is one NaN, or none -/
theorem one_nan {o : Option Datum} (h : ∀ d, o = some d → d.isNaN = false) : fcan ((o.map D.write).getD nanB) = (o.map D.write).getD nanB ∧ (o.map D.write).getD nanB < 2 * signB := by
  cases o with
  | none => exact ⟨by decide, nanB_lt⟩
  | some d =>
    have := write_ok (h d rfl)
    refine ⟨?_, this.2⟩
    show fcan (D.write d) = D.write d
    unfold fcan
    rw [this.1]
    rfl

theorem fneg_neg {a : Nat} (h : a < 2 * signB) : fneg (fneg a) = fcan a := by
  unfold fneg fcan
  by_cases h1 : isN a = true
  · rw [if_pos h1, if_pos h1, if_pos isN_nan]
  · rw [if_neg h1, if_neg h1, if_neg (by rw [isN_flip h]; exact h1), flip_flip h]
theorem fabs_neg {a : Nat} (h : a < 2 * signB) : fabs (fneg a) = fabs a := by
  unfold fneg fabs
  by_cases h1 : isN a = true
  · rw [if_pos h1, if_pos h1, if_pos isN_nan]
  · rw [if_neg h1, if_neg h1, if_neg (by rw [isN_flip h]; exact h1)]
    unfold flipW signB at *
    split <;> omega
theorem isN_mod (a : Nat) : isN (a % signB) = isN a := by
  unfold isN
  rw [Nat.mod_mod]
theorem fabs_abs (a : Nat) : fabs (fabs a) = fabs a := by
  unfold fabs
  by_cases h1 : isN a = true
  · rw [if_pos h1, if_pos isN_nan]
  · rw [if_neg h1, if_neg (by rw [isN_mod]; exact h1), Nat.mod_mod]

/-- the read of what Neg tells: the opposite, or a NaN -/
theorem read_neg {a : Nat} (h : a < 2 * signB) : (∃ s f s' f', D.read a = .nan s f ∧ D.read (fneg a) = .nan s' f') ∨ D.read (fneg a) = (D.read a).opposite := by
  by_cases h1 : isN a = true
  · left
    obtain ⟨s, f, h2⟩ := read_isN h h1
    obtain ⟨s', f', h3⟩ := read_isN nanB_lt isN_nan
    refine ⟨s, f, s', f', h2, ?_⟩
    unfold fneg
    rw [if_pos h1]
    exact h3
  · right
    unfold fneg
    rw [if_neg h1]
    exact read_flip h

theorem fmul_neg {a b : Nat} (ha : a < 2 * signB) : fmul (fneg a) b = fneg (fmul a b) := by
  unfold fmul Format.mul
  rcases read_neg ha with ⟨s, f, s', f', h1, h2⟩ | h
  · rw [h1, h2, product_nan_l, product_nan_l]
    exact neg_nan.symm
  · rw [h, product_opposite]
    cases hs : (D.read a).product (D.read b) with
    | none => exact neg_nan.symm
    | some d => simp [neg_write (product_ok hs)]
theorem fdiv_neg {a b : Nat} (ha : a < 2 * signB) : fdiv (fneg a) b = fneg (fdiv a b) := by
  unfold fdiv Format.div
  rcases read_neg ha with ⟨s, f, s', f', h1, h2⟩ | h
  · rw [h1, h2, quotient_nan_l, quotient_nan_l]
    exact neg_nan.symm
  · rw [h, quotient_opposite]
    cases hs : (D.read a).quotient (D.fractionBits + 2) (D.read b) with
    | none => exact neg_nan.symm
    | some d => simp [neg_write (quotient_ok hs)]
theorem fmul_lt (a b : Nat) : fmul a b < 2 * signB ∧ fcan (fmul a b) = fmul a b := by
  have := one_nan (o := (D.read a).product (D.read b)) (fun d h => product_ok h)
  exact ⟨this.2, this.1⟩
theorem fadd_lt (a b : Nat) : fadd a b < 2 * signB ∧ fcan (fadd a b) = fadd a b := by
  have := one_nan (o := (D.read a).sum (D.read b)) (fun d h => sum_ok h)
  exact ⟨this.2, this.1⟩
theorem fsub_lt (a b : Nat) : fsub a b < 2 * signB ∧ fcan (fsub a b) = fsub a b := by
  have := one_nan (o := (D.read a).sum (D.read b).opposite) (fun d h => sum_ok h)
  exact ⟨this.2, this.1⟩
theorem fdiv_lt (a b : Nat) : fdiv a b < 2 * signB ∧ fcan (fdiv a b) = fdiv a b := by
  have := one_nan (o := (D.read a).quotient (D.fractionBits + 2) (D.read b)) (fun d h => quotient_ok h)
  exact ⟨this.2, this.1⟩
theorem fmul_negs {a b : Nat} (ha : a < 2 * signB) (hb : b < 2 * signB) : fmul (fneg a) (fneg b) = fmul a b := by
  rw [fmul_neg ha, fmul_comm a, fmul_neg hb, fneg_neg (fmul_lt _ _).1, (fmul_lt _ _).2, fmul_comm]

/-- NumSigns' sum -/
theorem fadd_negs {a b : Nat} (ha : a < 2 * signB) (hb : b < 2 * signB) : fadd (fneg a) (fneg b) = fneg (fadd a b) ∨ fadd a b % signB = 0 := by
  unfold fadd Format.add
  rcases read_neg ha with ⟨s, f, s', f', h1, h2⟩ | h
  · left
    rw [h1, h2, sum_nan_l, sum_nan_l]
    exact neg_nan.symm
  rcases read_neg hb with ⟨s, f, s', f', h1, h2⟩ | h'
  · left
    rw [h1, h2, sum_nan_r, sum_nan_r]
    exact neg_nan.symm
  rw [h, h']
  rcases sum_opposite (D.read a) (D.read b) with e | ⟨⟨z, p, e⟩, _⟩
  · left
    rw [e]
    cases hs : (D.read a).sum (D.read b) with
    | none => exact neg_nan.symm
    | some d => simp [neg_write (sum_ok hs)]
  · right
    rw [e]
    simp [zero_write]
end Go.Proofs.YtjloiclbknfomaaDoor
