/- Floats, plain: bounds of words, and the answers of package num's functions. -/
import Derived.Test.YtjloiclbknfomaaDoorIt
set_option maxRecDepth 100000
namespace Go.Proofs.YtjloiclbknfomaaDoor
open Ieee

theorem fneg_lt {a : Nat} (ha : a < 2 * signB) : fneg a < 2 * signB := by
  unfold fneg
  split
  · exact nanB_lt
  · exact flip_lt ha
theorem fabs_lt {a : Nat} (_ : a < 2 * signB) : fabs a < 2 * signB := by
  unfold fabs
  split
  · exact nanB_lt
  · unfold signB
    omega
theorem ffloor_lt {a : Nat} (ha : a < 2 * signB) : ffloor a < 2 * signB := by
  by_cases hn : isN a = true
  · unfold ffloor
    rw [if_pos hn]
    exact nanB_lt
  · rw [Bool.not_eq_true] at hn
    by_cases hi : a % signB = infB
    · rw [ffloor_eq ha]
      unfold rFloor
      rw [hn, if_neg (by decide), if_pos (.inl hi)]
      exact ha
    · have := no_nan hn
      exact (floor_ex ⟨ha, by omega⟩).1.1
theorem fmin_lt {a b : Nat} (ha : a < 2 * signB) (hb : b < 2 * signB) : fmin a b < 2 * signB := by
  rw [fmin_eq ha hb]
  unfold rMin
  split
  · exact nanB_lt
  · split
    · exact ha
    · exact hb
theorem fmax_lt {a b : Nat} (ha : a < 2 * signB) (hb : b < 2 * signB) : fmax a b < 2 * signB := by
  rw [fmax_eq ha hb]
  unfold rMax
  split
  · exact nanB_lt
  · split
    · exact ha
    · exact hb
theorem fof_lt (n : Int) : fof n < 2 * signB := by
  unfold fof
  obtain ⟨h1, h2⟩ := nearest_is (decide (n < 0)) n.natAbs 0
  rw [h1]
  exact word_lt2 _ (Nat.lt_of_le_of_lt h2 inf_sign)
theorem fof_no (n : Int) : isN (fof n) = false := by
  unfold fof
  obtain ⟨h1, h2⟩ := nearest_is (decide (n < 0)) n.natAbs 0
  rw [h1]
  exact word_nan h2
theorem fadd_fin {a b : Nat} (ha : Fin_ a) (hb : Fin_ b) : isN (fadd a b) = false := by
  obtain ⟨wa, _⟩ := word_of ha.1
  obtain ⟨wb, _⟩ := word_of hb.1
  have h1 : D.read a = .number (decide (signB ≤ a)) (takenM (a % signB)) (takenE (a % signB)) := by
    have := read_num (decide (signB ≤ a)) ha.2
    rw [← wa] at this
    exact this
  have h2 : D.read b = .number (decide (signB ≤ b)) (takenM (b % signB)) (takenE (b % signB)) := by
    have := read_num (decide (signB ≤ b)) hb.2
    rw [← wb] at this
    exact this
  have h3 : ∃ d, (D.read a).sum (D.read b) = some d := by
    rw [h1, h2]
    exact ⟨_, rfl⟩
  obtain ⟨d, hd⟩ := h3
  unfold fadd Format.add
  rw [hd]
  exact (write_ok (sum_ok hd)).1
theorem order_three (a b : Nat) : forder a b = -1 ∨ forder a b = 0 ∨ forder a b = 1 := by
  unfold forder
  split
  · exact .inl rfl
  · split
    · exact .inr (.inr rfl)
    · exact .inr (.inl rfl)
/-- Int's two answers -/
def fintR (a : Nat) : Int × Int := match fint a with
  | some n => (n, 0)
  | none => (0, 11)
theorem plain_fin {a : Nat} (ha : a < 2 * signB) (h : fclass a = 4) : Fin_ a := ⟨ha, ((class_plain a).1 h).2⟩
theorem fabs_no {a : Nat} (fa : Fin_ a) : isN (fabs a) = false := (fin_abs fa).1.no
theorem fval_abs {a : Nat} (fa : Fin_ a) : fval (fabs a) = ((fabs a : Nat) : Int) := by
  rw [(fin_abs fa).2.2]
  unfold fval
  have : a % signB < signB := Nat.mod_lt _ (by decide)
  rw [if_neg (by omega), Nat.mod_eq_of_lt this]

/-- what stands above every finite number -/
theorem gt_max {b : Nat} (hb : b < signB) : (D.order b 9218868437227405311 == some .gt) = decide (b = infB) := by
  have hm : b % signB = b := Nat.mod_eq_of_lt hb
  by_cases hn : isN b = true
  · rw [order_nan (by omega) (by decide) (.inl hn)]
    have := (isN_iff b).1 hn
    rw [hm] at this
    rw [decide_eq_false (by omega)]
    rfl
  · rw [Bool.not_eq_true] at hn
    have h1 := no_nan hn
    rw [hm] at h1
    rw [order_val (by omega) (by decide) hn (by decide)]
    have hv : fval b = (b : Int) := by
      unfold fval
      rw [if_neg (by omega), hm]
    have hw : fval 9218868437227405311 = 9218868437227405311 := by decide
    rw [hv, hw]
    unfold infB at *
    by_cases c : b = 9218868437227405312
    · rw [decide_eq_true c, Int.compare_eq_gt.2 (by omega)]
      rfl
    · rw [decide_eq_false c]
      have : compare (b : Int) 9218868437227405311 ≠ .gt := fun e => by
        have := Int.compare_eq_gt.1 e
        omega
      cases h : compare (b : Int) 9218868437227405311
      · rfl
      · rfl
      · exact absurd h this
theorem eq_zero {b : Nat} (hb : b < 2 * signB) : (D.order b 0 == some .eq) = decide (b % signB = 0) := by
  have h := fequal_val hb (show 0 < 2 * signB by decide)
  have e : (D.order b 0 == some .eq) = fequal b 0 := by
    unfold fequal
    cases D.order b 0 with
    | none => rfl
    | some o => cases o <;> rfl
  rw [e, h]
  have hv : fval 0 = 0 := by decide
  rw [hv]
  by_cases hn : isN b = true
  · have := (isN_iff b).1 hn
    rw [hn, decide_eq_false (p := b % signB = 0) (by unfold infB at this; omega)]
    rfl
  · rw [Bool.not_eq_true] at hn
    rw [hn]
    have : (fval b = 0) ↔ (b % signB = 0) := by
      unfold fval
      split <;> omega
    simp only [this]
    simp
    intro h
    decide
theorem lt_tiny {b : Nat} (hb : b < signB) : (D.order b 4503599627370496 == some .lt) = decide (b < 4503599627370496) := by
  have hm : b % signB = b := Nat.mod_eq_of_lt hb
  have h := fless_val (show b < 2 * signB by omega) (show 4503599627370496 < 2 * signB by decide)
  have e : (D.order b 4503599627370496 == some .lt) = fless b 4503599627370496 := by
    unfold fless
    cases D.order b 4503599627370496 with
    | none => rfl
    | some o => cases o <;> rfl
  rw [e, h]
  have hw : fval 4503599627370496 = 4503599627370496 := by decide
  have hv : fval b = (b : Int) := by
    unfold fval
    rw [if_neg (by omega), hm]
  have hc : isN 4503599627370496 = false := by decide
  rw [hv, hw, hc]
  by_cases hn : isN b = true
  · have := (isN_iff b).1 hn
    rw [hm] at this
    rw [hn, decide_eq_false (p := b < 4503599627370496) (by unfold infB at this; omega)]
    rfl
  · rw [Bool.not_eq_true] at hn
    rw [hn]
    have : ((b : Int) < 4503599627370496) ↔ (b < 4503599627370496) := by omega
    simp only [this]
    rfl
theorem fless_is (a b : Nat) : fless a b = (D.order a b == some .lt) := by
  unfold fless
  cases D.order a b with
  | none => rfl
  | some o => cases o <;> rfl
theorem fequal_is (a b : Nat) : fequal a b = (D.order a b == some .eq) := by
  unfold fequal
  cases D.order a b with
  | none => rfl
  | some o => cases o <;> rfl

/-! ### forms that the machine's words take -/
theorem xor_top {r : Nat} (h : r < 2 ^ 63) : r ^^^ 2 ^ 63 = 2 ^ 63 + r := by
  refine Nat.eq_of_testBit_eq fun i => ?_
  rw [Nat.testBit_xor, Nat.testBit_two_pow]
  rcases Nat.lt_trichotomy i 63 with c | c | c
  · rw [Nat.testBit_two_pow_add_gt c, decide_eq_false (by omega), Bool.xor_false]
  · subst c
    rw [Nat.testBit_two_pow_add_eq, decide_eq_true rfl, Bool.xor_true]
  · have h1 : 2 ^ 63 + r < 2 ^ i := Nat.lt_of_lt_of_le (show 2 ^ 63 + r < 2 ^ 64 by omega) (Nat.pow_le_pow_right (by decide) (by omega))
    rw [Nat.testBit_lt_two_pow h1, Nat.testBit_lt_two_pow (show r < 2 ^ i by omega), decide_eq_false (by omega)]
    rfl
theorem xor_flip {a : Nat} (ha : a < 2 * signB) : a ^^^ 2 ^ 63 = flipW a := by
  have h63 : (2 : Nat) ^ 63 = signB := by decide
  unfold flipW
  by_cases c : a < signB
  · rw [if_pos c, xor_top (by omega), h63]
    omega
  · rw [if_neg c]
    have h1 := xor_top (r := a - signB) (by omega)
    have h2 : 2 ^ 63 + (a - signB) = a := by omega
    rw [h2] at h1
    have h3 : a ^^^ 2 ^ 63 = ((a - signB) ^^^ 2 ^ 63) ^^^ 2 ^ 63 := by rw [h1]
    rw [h3, Nat.xor_assoc, Nat.xor_self, Nat.xor_zero]
theorem neg_is {a : Nat} (ha : a < 2 * signB) : fcan (Op.negFloat .f64 a) = fneg a := by
  have h : Op.negFloat .f64 a = flipW a := xor_flip ha
  rw [h]
  unfold fcan fneg
  rw [isN_flip ha]
theorem abs_is (a : Nat) : fcan (a % signB) = fabs a := by
  unfold fcan fabs
  rw [isN_mod]
theorem of_is (n : Int) : fcan (floatOfInt .f64 n) = fof n := by
  have h : floatOfInt .f64 n = fof n := rfl
  rw [h]
  exact fcan_plain (fof_no n)
theorem floor_is {a : Nat} (h : isN a = false) : FloatKind.f64.format.write ((FloatKind.f64.format.read a).integral .down) = ffloor a := by
  unfold ffloor
  rw [h, if_neg (by decide)]
  rfl
theorem floor_no {a : Nat} (ha : a < 2 * signB) (h : isN a = false) : isN (ffloor a) = false := by
  by_cases hi : a % signB = infB
  · rw [ffloor_eq ha]
    unfold rFloor
    rw [h, if_neg (by decide), if_pos (.inl hi)]
    exact h
  · have := no_nan h
    exact (floor_ex ⟨ha, by omega⟩).1.no
theorem geq_is (a b : Nat) : fgeq a b = (D.order a b == some .gt || D.order a b == some .eq) := by
  unfold fgeq
  cases D.order a b with
  | none => rfl
  | some o => cases o <;> rfl
/-- where all tests of Int hold, the conversion gives a number -/
theorem fint_all {a : Nat} (ha : a < 2 * signB) (h1 : fequal a (ffloor a) = true) (h2 : fgeq a c63n = true) (h3 : fless a c63 = true) : ∃ n, floatToIntVal .f64 a .i64 = some n ∧ fint a = some n ∧ -9223372036854775808 ≤ n ∧ n ≤ 9223372036854775807 := by
  have hf := finite_of_bounds ha h2 h3
  have hl := floor_ex hf
  have e1 := h1
  rw [fequal_val ha hl.1.1, Bool.and_eq_true] at e1
  obtain ⟨k, hk⟩ := (whole_iff hf).1 (of_decide_eq_true e1.2)
  have g2 := h2
  have g3 := h3
  rw [fgeq_val ha c63n_ex.1.1, Bool.and_eq_true] at g2
  rw [fless_val ha c63_ex.1.1, Bool.and_eq_true] at g3
  have b1 := (ex_le c63n_ex.1 hf).1 (of_decide_eq_true g2.2)
  have b2 := (ex_lt hf c63_ex.1).1 (of_decide_eq_true g3.2)
  rw [c63n_ex.2, hk, ← Int.neg_mul] at b1
  rw [c63_ex.2, hk] at b2
  have b3 := mulU_le.1 b1
  have b4 := mulU_lt.1 b2
  have h63 : ((2 ^ 63 : Nat) : Int) = 9223372036854775808 := by decide
  have hs := fint_some hf hk (by omega) (by omega)
  refine ⟨k, ?_, hs, by omega, by omega⟩
  unfold fint at hs
  rw [h1, h2, h3] at hs
  exact hs
theorem fint_no {a : Nat} (h : (fequal a (ffloor a) && (fgeq a c63n && fless a c63)) = false) : fintR a = (0, 11) := by
  unfold fintR fint
  rw [h]
  rfl
theorem fint_yes {a : Nat} {n : Int} (h : fint a = some n) : fintR a = (n, 0) := by
  unfold fintR
  rw [h]
theorem can_lt {a : Nat} (ha : a < 2 * signB) : fcan a < 2 * signB := by
  unfold fcan
  split
  · exact nanB_lt
  · exact ha

/-! ### the machine's floor -/
theorem read_isN2 {a : Nat} (h : a < 2 * signB) (hn : isN a = true) : ∃ s f, D.read a = .nan s f ∧ f < 4503599627370496 := by
  obtain ⟨wa, la⟩ := word_of h
  have h1 := (isN_iff a).1 hn
  have h2 := read_word (decide (signB ≤ a)) (a % signB) la
  rw [← wa] at h2
  unfold infB signB at *
  rw [if_neg (by omega), if_neg (by omega), if_neg (by omega)] at h2
  exact ⟨_, _, h2, by omega⟩
theorem quiet_ok (s : Bool) {t : Nat} (h : t < 4503599627370496) : isN (D.write (.nan s (D.quiet t))) = true ∧ D.write (.nan s (D.quiet t)) < 2 * signB := by
  have h1 : D.quiet t < 4503599627370496 := Nat.or_lt_two_pow (n := 52) h (by decide)
  have h2 : 2251799813685248 ≤ D.quiet t := Nat.right_le_or (n := t) (m := 2251799813685248)
  have hw : D.write (.nan s (D.quiet t)) = D.word s (infB + D.quiet t) := by
    show D.word s (D.infRung + D.quiet t % D.binade) = _
    rw [D_inf, D_bin, Nat.mod_eq_of_lt h1]
    rfl
  have hr : infB + D.quiet t < signB := by
    unfold infB signB
    omega
  rw [hw]
  refine ⟨?_, word_lt2 s hr⟩
  unfold isN
  rw [word_mod s hr]
  exact decide_eq_true (by omega)
theorem choose_two {P : Program} (w : World) (nm : String) : ∃ k, (choose (.extern nm 2)).run P w = .ok k w.drew := ⟨(Question.extern nm 2).cut (w.tape w.drawn (.extern nm 2)), by rw [run_choose_drew]; rfl⟩
theorem integral_form (nm : String) (a : Nat) : Go.Extern.MathFloor.toIntegral nm .down #[.float .f64 a] = (match FloatKind.f64.decode a with
    | .nan s t =>
      if FloatKind.f64.format.quiet t = t then pure (.float .f64 a) else do
      let kept ← choose (.extern "math.Floor,Ceil,Trunc,RoundToEven.signallingNaN kept" 2)
      pure (.float .f64 (if kept == 1 then a else FloatKind.f64.encode (.nan s (FloatKind.f64.format.quiet t))))
    | d => pure (.float .f64 (FloatKind.f64.encode (d.integral .down)))) := rfl
theorem floor_run {P : Program} (w : World) {a : Nat} (ha : a < 2 * signB) : ∃ v n, v < 2 * signB ∧ fcan v = ffloor a ∧ isN v = isN a ∧ (isN a = false → v = ffloor a) ∧
    (Go.Extern.MathFloor.toIntegral "math.archFloor" .down #[.float .f64 a]).run P w = .ok (.float .f64 v) (w.drewN n) := by
  cases hn : isN a with
  | true =>
    obtain ⟨s, t, hr, ht⟩ := read_isN2 ha hn
    have hr' : FloatKind.f64.decode a = .nan s t := hr
    have hfl : ffloor a = nanB := by
      unfold ffloor
      rw [if_pos hn]
    have hno : true = false → a = ffloor a := fun e => by cases e
    have one : ∀ v, isN v = true → fcan v = ffloor a := fun v hv => by
      rw [hfl]
      unfold fcan
      rw [if_pos hv]
    by_cases hq : FloatKind.f64.format.quiet t = t
    · refine ⟨a, 0, ha, one a hn, hn, hno, ?_⟩
      rw [integral_form, hr']
      simp only [if_pos hq]
      rfl
    · obtain ⟨k, hk⟩ := choose_two (P := P) w "math.Floor,Ceil,Trunc,RoundToEven.signallingNaN kept"
      obtain ⟨q1, q2⟩ := quiet_ok s ht
      by_cases hk1 : (k == 1) = true
      · refine ⟨a, 1, ha, one a hn, hn, hno, ?_⟩
        rw [integral_form, hr']
        simp only [if_neg hq, Sem.run_bind, hk, Result.andThen_ok, if_pos hk1]
        rfl
      · refine ⟨_, 1, q2, one _ q1, q1, (fun e => nomatch e), ?_⟩
        rw [integral_form, hr']
        simp only [if_neg hq, Sem.run_bind, hk, Result.andThen_ok, if_neg hk1]
        rfl
  | false =>
    have h1 := read_nan ha
    rw [hn] at h1
    have hfl := floor_is hn
    refine ⟨ffloor a, 0, ffloor_lt ha, fcan_plain (floor_no ha hn), floor_no ha hn, fun _ => rfl, ?_⟩
    have hfl' : FloatKind.f64.encode ((FloatKind.f64.decode a).integral .down) = ffloor a := hfl
    cases hd : FloatKind.f64.decode a with
    | nan s t =>
      have : D.read a = .nan s t := hd
      rw [this] at h1
      cases h1
    | number s m e =>
      rw [hd] at hfl'
      rw [integral_form, hd]
      simp only [hfl']
      rfl
    | infinity s =>
      rw [hd] at hfl'
      rw [integral_form, hd]
      simp only [hfl']
      rfl

end Go.Proofs.YtjloiclbknfomaaDoor
