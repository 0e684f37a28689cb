/- Floats, plain: Int, and the laws NumFloors and NumCounts. -/
import Derived.Test.YtjloiclbknfomaaDoorIj
set_option maxRecDepth 100000
namespace Go.Proofs.YtjloiclbknfomaaDoor
open Ieee

def c63 : Nat := 4890909195324358656
def c63n : Nat := 14114281232179134464
def oneB : Nat := 4607182418800017408

/-- 'a >= b' -/
def fgeq (a b : Nat) : Bool := match D.order a b with
  | some .eq => true
  | some .gt => true
  | _ => false
theorem fgeq_val {a b : Nat} (ha : a < 2 * signB) (hb : b < 2 * signB) : fgeq a b = (!isN a && !isN b && decide (fval b ≤ fval a)) := by
  unfold fgeq
  by_cases h : isN a = true ∨ isN b = true
  · rw [order_nan ha hb h]
    rcases h with h | h <;> simp [h]
  · rw [not_or, Bool.not_eq_true, Bool.not_eq_true] at h
    rw [order_val ha hb h.1 h.2, h.1, h.2]
    rcases Int.lt_trichotomy (fval a) (fval b) with c | c | c
    · rw [Int.compare_eq_lt.2 c, decide_eq_false (by omega)]
      rfl
    · rw [Int.compare_eq_eq.2 c, decide_eq_true (by omega)]
      rfl
    · rw [Int.compare_eq_gt.2 c, decide_eq_true (by omega)]
      rfl

/-- the whole number that a word is, as the code tells it -/
def fint (a : Nat) : Option Int := if fequal a (ffloor a) && (fgeq a c63n && fless a c63) then floatToIntVal .f64 a .i64 else none

theorem pow2_ex (n : Nat) (h : n ≤ 1023) : Fin_ ((1023 + n) * 4503599627370496) ∧ ex ((1023 + n) * 4503599627370496) = ((2 ^ n : Nat) : Int) * (Un : Int) := by
  have c : ¬ (1023 + n) * 4503599627370496 < 4503599627370496 := by omega
  have hlt : (1023 + n) * 4503599627370496 < infB := by unfold infB; omega
  have e1 : takenM ((1023 + n) * 4503599627370496) = 4503599627370496 := by
    unfold takenM
    rw [if_neg c, Nat.mul_mod_left]
  have e2 : takenE ((1023 + n) * 4503599627370496) = (n : Int) - 52 := by
    unfold takenE
    rw [if_neg c, Nat.mul_div_cancel _ (by decide)]
    omega
  have hw : (1023 + n) * 4503599627370496 = D.word false ((1023 + n) * 4503599627370496) := by unfold Format.word; simp
  rw [hw]
  refine ⟨fin_word false hlt, ?_⟩
  rw [ex_word false hlt]
  simp only [Bool.false_eq_true, if_false]
  obtain ⟨e, he, hU⟩ := Un_def
  rw [hU]
  unfold NN
  rw [e1, e2, ← Int.natCast_mul, ← Nat.pow_add, show (4503599627370496 : Nat) = 2 ^ 52 by decide, ← Nat.pow_add]
  congr 2
  omega
theorem one_ex : Fin_ oneB ∧ ex oneB = (Un : Int) := by
  have := pow2_ex 0 (by decide)
  rw [Nat.pow_zero] at this
  refine ⟨this.1, this.2.trans (by simp)⟩
theorem c63_ex : Fin_ c63 ∧ ex c63 = ((2 ^ 63 : Nat) : Int) * (Un : Int) := pow2_ex 63 (by decide)
theorem c63n_ex : Fin_ c63n ∧ ex c63n = -(((2 ^ 63 : Nat) : Int) * (Un : Int)) := by
  have h := fin_neg c63_ex.1
  rw [c63_ex.2] at h
  have : fneg c63 = c63n := by decide
  rw [this] at h
  exact h

theorem mulU_le {a b : Int} : a * (Un : Int) ≤ b * (Un : Int) ↔ a ≤ b := by
  have hU := Un_pos
  exact Int.mul_le_mul_right (by omega)
theorem mulU_lt {a b : Int} : a * (Un : Int) < b * (Un : Int) ↔ a < b := by
  have := @mulU_le b a
  omega
theorem mulU_eq {a b : Int} : a * (Un : Int) = b * (Un : Int) ↔ a = b := by
  have := @mulU_le b a
  have := @mulU_le a b
  omega

theorem cut_whole (s : Bool) (m : Nat) : Toward.zero.cut s m 0 = m := by
  unfold Toward.cut
  simp
theorem cut_zero_of (s : Bool) {m k q : Nat} (h : m = q * 2 ^ k) : Toward.zero.cut s m k = q := by
  unfold Toward.cut
  simp only [Nat.shiftLeft_eq, Nat.one_mul]
  have hk := Nat.two_pow_pos k
  by_cases h0 : q = 0
  · rw [h, h0, Nat.zero_mul, Nat.zero_div]
    rfl
  · have hle : 2 ^ k ≤ m := by
      rw [h]
      exact Nat.le_mul_of_pos_left _ (by omega)
    have hm0 : m ≠ 0 := by omega
    have hl : k ≤ m.log2 := (Nat.le_log2 hm0).2 hle
    rw [Nat.min_eq_left (by omega), h, Nat.mul_div_cancel _ hk]
    rfl
theorem toInt_whole {a : Nat} {n : Int} (ha : Fin_ a) (h : ex a = n * (Un : Int)) : (D.read a).toInt .zero = some n := by
  obtain ⟨wa, la⟩ := word_of ha.1
  have hfin := ha.2
  obtain ⟨s, hs⟩ : ∃ s, s = decide (signB ≤ a) := ⟨_, rfl⟩
  obtain ⟨x, hx⟩ : ∃ x, x = a % signB := ⟨_, rfl⟩
  rw [← hs, ← hx] at wa
  rw [← hx] at la hfin
  have hexa : ex a = if s = true then -(NN x : Int) else (NN x : Int) := by
    rw [wa, ex_word s hfin]
  rw [show D.read a = D.read (D.word s x) by rw [← wa], read_num s hfin]
  have hge := takenE_ge x
  have hUp := Un_pos
  have hna : NN x = n.natAbs * Un := by
    have h1 : (ex a).natAbs = NN x := by
      rw [hexa]
      split <;> omega
    rw [← h1, h, Int.natAbs_mul, Int.natAbs_natCast]
  have key : Toward.zero.cut s (takenM x <<< (takenE x).toNat) (-takenE x).toNat = n.natAbs := by
    by_cases he : 0 ≤ takenE x
    · rw [show (-takenE x).toNat = 0 by omega, Nat.shiftLeft_eq, cut_whole]
      have h2 : NN x = takenM x * 2 ^ (takenE x).toNat * Un := by
        obtain ⟨e, he, hU⟩ := Un_def
        rw [hU]
        unfold NN
        rw [Nat.mul_assoc, ← Nat.pow_add]
        congr 2
        omega
      rw [hna] at h2
      exact (Nat.eq_of_mul_eq_mul_right hUp h2).symm
    · rw [show (takenE x).toNat = 0 by omega, Nat.shiftLeft_zero]
      refine cut_zero_of s ?_
      have hPp := Nat.two_pow_pos (takenE x + 1074).toNat
      have h2 : takenM x * 2 ^ (takenE x + 1074).toNat = n.natAbs * 2 ^ (-takenE x).toNat * 2 ^ (takenE x + 1074).toNat := by
        have h3 : n.natAbs * Un = n.natAbs * 2 ^ (-takenE x).toNat * 2 ^ (takenE x + 1074).toNat := by
          obtain ⟨e, he, hU⟩ := Un_def
          rw [hU, Nat.mul_assoc, ← Nat.pow_add]
          congr 2
          omega
        rw [← h3, ← hna]
        rfl
      exact Nat.eq_of_mul_eq_mul_right hPp h2
  show some (signed s (Toward.zero.cut s (takenM x <<< (takenE x).toNat) (-takenE x).toNat) 0) = _
  rw [key, signed_zero]
  congr 1
  have hsign : if s = true then n ≤ 0 else 0 ≤ n := by
    have hN : (0 : Int) ≤ NN x := by omega
    cases s
    · simp only [Bool.false_eq_true, if_false] at hexa ⊢
      have : (0 : Int) * (Un : Int) ≤ n * (Un : Int) := by rw [Int.zero_mul]; omega
      exact mulU_le.1 this
    · simp only [if_true] at hexa ⊢
      have : n * (Un : Int) ≤ (0 : Int) * (Un : Int) := by rw [Int.zero_mul]; omega
      exact mulU_le.1 this
  cases s
  · simp only [Bool.false_eq_true, if_false] at hsign ⊢
    omega
  · simp only [if_true] at hsign ⊢
    omega

theorem fint_some {a : Nat} {n : Int} (ha : Fin_ a) (h : ex a = n * (Un : Int)) (h1 : -9223372036854775808 ≤ n) (h2 : n < 9223372036854775808) : fint a = some n := by
  have hf := floor_ex ha
  have hfe : fequal a (ffloor a) = true := by
    rw [fequal_val ha.1 hf.1.1, ha.no, hf.1.no, decide_eq_true ((whole_iff ha).2 ⟨n, h⟩)]
    rfl
  have hge : fgeq a c63n = true := by
    rw [fgeq_val ha.1 c63n_ex.1.1, ha.no, c63n_ex.1.no, decide_eq_true ((ex_le c63n_ex.1 ha).2 (by
      rw [c63n_ex.2, h, ← Int.neg_mul]
      exact mulU_le.2 (by
        have : ((2 ^ 63 : Nat) : Int) = 9223372036854775808 := by decide
        omega)))]
    rfl
  have hlt : fless a c63 = true := by
    rw [fless_val ha.1 c63_ex.1.1, ha.no, c63_ex.1.no, decide_eq_true ((ex_lt ha c63_ex.1).2 (by
      rw [c63_ex.2, h]
      exact mulU_lt.2 (by
        have : ((2 ^ 63 : Nat) : Int) = 9223372036854775808 := by decide
        omega)))]
    rfl
  unfold fint
  rw [hfe, hge, hlt]
  simp only [Bool.and_self, if_true]
  unfold floatToIntVal
  have : FloatKind.f64.decode a = D.read a := rfl
  rw [this, toInt_whole ha h]
  have b1 : IntKind.i64.min = -9223372036854775808 := by decide
  have b2 : IntKind.i64.max = 9223372036854775807 := by decide
  simp only [b1, b2]
  rw [if_pos ⟨h1, by omega⟩]

theorem finite_of_bounds {a : Nat} (ha : a < 2 * signB) (h1 : fgeq a c63n = true) (h2 : fless a c63 = true) : Fin_ a := by
  refine ⟨ha, ?_⟩
  rw [fgeq_val ha c63n_ex.1.1, Bool.and_eq_true] at h1
  rw [fless_val ha c63_ex.1.1, Bool.and_eq_true] at h2
  have g1 := of_decide_eq_true h1.2
  have g2 := of_decide_eq_true h2.2
  unfold fval c63n at g1
  unfold fval c63 at g2
  unfold signB infB at *
  split at g1 <;> split at g2 <;> omega
theorem fint_back {a : Nat} {n : Int} (ha : a < 2 * signB) (h : fint a = some n) : Fin_ a ∧ ex a = n * (Un : Int) ∧ -9223372036854775808 ≤ n ∧ n < 9223372036854775808 := by
  unfold fint at h
  split at h
  · rename_i hc
    rw [Bool.and_eq_true, Bool.and_eq_true] at hc
    have hfin := finite_of_bounds ha hc.2.1 hc.2.2
    have hf := floor_ex hfin
    have h1 := hc.1
    rw [fequal_val ha hf.1.1, Bool.and_eq_true] at h1
    obtain ⟨k, hk⟩ := (whole_iff hfin).1 (of_decide_eq_true h1.2)
    unfold floatToIntVal at h
    have : FloatKind.f64.decode a = D.read a := rfl
    rw [this, toInt_whole hfin hk] at h
    have b1 : IntKind.i64.min = -9223372036854775808 := by decide
    have b2 : IntKind.i64.max = 9223372036854775807 := by decide
    simp only [b1, b2] at h
    split at h
    · rename_i hb
      injection h with h
      rw [← h]
      exact ⟨hfin, hk, hb.1, by omega⟩
    · cases h
  · cases h

/-! ### NumFloors -/
theorem NN_52 : NN 4841369599423283200 = 4503599627370496 * Un := by
  have h := (pow2_ex 52 (by decide)).2
  have hw : (1023 + 52) * 4503599627370496 = D.word false 4841369599423283200 := by decide
  rw [hw, ex_word false (by decide)] at h
  simp only [Bool.false_eq_true, if_false] at h
  have h2 : ((NN 4841369599423283200 : Nat) : Int) = ((4503599627370496 * Un : Nat) : Int) := by
    rw [h, Int.natCast_mul]
  exact Int.ofNat.inj h2

theorem floors_great {a : Nat} (ha : a < 2 * signB) (h : 4841369599423283200 ≤ fabs a) : ffloor a = fcan a := by
  unfold fcan
  by_cases hn : isN a = true
  · unfold ffloor
    rw [if_pos hn, if_pos hn]
  · rw [if_neg hn, ffloor_eq ha]
    unfold fabs at h
    rw [if_neg hn] at h
    unfold rFloor
    rw [if_neg hn]
    by_cases hc : a % signB = infB ∨ a % signB = 0
    · rw [if_pos hc]
    · rw [if_neg hc]
      have : 0 ≤ takenE (a % signB) := by
        unfold takenE
        rw [if_neg (by omega)]
        omega
      rw [if_pos this]

theorem floors_small {a : Nat} (ha : a < 2 * signB) (h : fabs a < 4841369599423283200) :
    ∃ n : Int, fint (ffloor a) = some n ∧ fless a (ffloor a) = false ∧ fequal (fof n) (ffloor a) = true ∧ fless oneB (fsub a (ffloor a)) = false ∧ (fequal a (ffloor a) = true ∨ fless (ffloor a) a = true) ∧ fless a (fadd (ffloor a) oneB) = true ∧ -9223372036854775808 ≤ n ∧ n ≤ 9223372036854775807 := by
  have hn : isN a = false := by
    cases hc : isN a
    · rfl
    · unfold fabs at h
      rw [hc] at h
      unfold nanB at h
      simp at h
  unfold fabs at h
  rw [hn, if_neg (by decide)] at h
  have hfin : Fin_ a := ⟨ha, by unfold infB; omega⟩
  obtain ⟨hf, n, h1, h2, h3, h4⟩ := floor_ex hfin
  have hU := Un_pos
  have hNN : (NN (a % signB) : Int) ≤ 4503599627370496 * (Un : Int) := by
    have := (NN_le hfin.2 (show 4841369599423283200 < infB by decide)).2 (by omega)
    rw [NN_52] at this
    have h9 : ((4503599627370496 * Un : Nat) : Int) = 4503599627370496 * (Un : Int) := Int.natCast_mul _ _
    rw [← h9]
    exact Int.ofNat_le.2 this
  have hex : -(4503599627370496 * (Un : Int)) ≤ ex a ∧ ex a ≤ 4503599627370496 * (Un : Int) := by
    unfold ex
    rw [exact_NN]
    split <;> omega
  have n1 : n ≤ 4503599627370496 := mulU_le.1 (by omega)
  have n2 : -4503599627370497 < n := by
    refine mulU_lt.1 ?_
    rw [Int.neg_mul, show (4503599627370497 : Int) = 4503599627370496 + 1 by decide, Int.add_mul, Int.one_mul]
    omega
  refine ⟨n, fint_some hf h1 (by omega) (by omega), ?_, ?_, ?_, ?_, ?_, by omega, by omega⟩
  · rw [fless_val ha hf.1, decide_eq_false (by rw [ex_lt hfin hf, h1]; omega), Bool.and_false]
  · have hr := fof_exact (rep_whole (n := n) (by omega))
    rw [fequal_val hr.1.1 hf.1, hr.1.no, hf.no, decide_eq_true ((ex_eq hr.1 hf).2 (by rw [hr.2, h1]))]
    rfl
  · have hs := fval_sub hfin hf
    have h5 : fval (fsub a (ffloor a)) ≤ fval oneB := by
      rw [hs, fval_rounds one_ex.1, one_ex.2]
      exact rounds_mono (by omega)
    rw [fless_val one_ex.1.1 (fsub_lt _ _).1, decide_eq_false (by omega), Bool.and_false]
  · by_cases c : ex a = n * (Un : Int)
    · left
      rw [fequal_val ha hf.1, hfin.no, hf.no, decide_eq_true ((ex_eq hfin hf).2 (by rw [c, h1]))]
      rfl
    · right
      rw [fless_val hf.1 ha, hfin.no, hf.no, decide_eq_true ((ex_lt hf hfin).2 (by omega))]
      rfl
  · have hs := fval_add hf one_ex.1
    rw [h1, one_ex.2, show n * (Un : Int) + (Un : Int) = (n + 1) * (Un : Int) by rw [Int.add_mul, Int.one_mul]] at hs
    obtain ⟨hg1, hg2⟩ := ex_exact (fadd_lt _ _).1 hs (rep_whole (by omega))
    rw [fless_val ha hg1.1, hfin.no, hg1.no, decide_eq_true ((ex_lt hfin hg1).2 (by rw [hg2, Int.add_mul, Int.one_mul]; omega))]
    rfl

/-! ### NumCounts -/
theorem counts_back {a : Nat} {n : Int} (ha : a < 2 * signB) (h : fint a = some n) : fequal (fof n) a = true := by
  obtain ⟨hf, he, _⟩ := fint_back ha h
  have hr := fof_exact (n := n) (by rw [← he]; exact ex_rep hf)
  rw [fequal_val hr.1.1 ha, hr.1.no, hf.no, decide_eq_true ((ex_eq hr.1 hf).2 (by rw [hr.2, he]))]
  rfl

theorem mul_exact {a b : Nat} (ha : Fin_ a) (hb : Fin_ b) : fmul a b = D.nearest (decide (signB ≤ a) ^^ decide (signB ≤ b)) (NN (a % signB) * NN (b % signB)) (-2148) := by
  obtain ⟨wa, la⟩ := word_of ha.1
  obtain ⟨wb, lb⟩ := word_of hb.1
  have fa := ha.2
  have fb := hb.2
  generalize decide (signB ≤ a) = s at wa ⊢
  generalize decide (signB ≤ b) = t at wb ⊢
  generalize a % signB = x at wa fa ⊢
  generalize b % signB = y at wb fb ⊢
  subst wa wb
  unfold fmul Format.mul
  rw [read_num s fa, read_num t fb]
  simp only [Datum.product, Option.map_some, Option.getD_some]
  show D.nearest (s ^^ t) (takenM x * takenM y) (takenE x + takenE y) = _
  have g1 := takenE_ge x
  have g2 := takenE_ge y
  have hN : NN x * NN y = takenM x * takenM y * 2 ^ ((takenE x + 1074).toNat + (takenE y + 1074).toNat) := by
    unfold NN
    rw [Nat.pow_add]
    simp only [Nat.mul_assoc, Nat.mul_left_comm]
  rw [hN]
  by_cases h0 : takenM x * takenM y = 0
  · rw [h0, Nat.zero_mul, nearest_none, nearest_none]
  · exact (nearest_scale (s ^^ t) (by omega) (by omega)).symm

theorem counts {n m : Int} (hn : -33554432 ≤ n ∧ n ≤ 33554432) (hm : -33554432 ≤ m ∧ m ≤ 33554432) :
    fint (fadd (fof n) (fof m)) = some (n + m) ∧ fint (fmul (fof n) (fof m)) = some (n * m) ∧ fless (fof n) (fof m) = decide (n < m) := by
  have an := fof_exact (rep_whole (n := n) (by omega))
  have am := fof_exact (rep_whole (n := m) (by omega))
  have hU := Un_pos
  refine ⟨?_, ?_, ?_⟩
  · have hs := fval_add an.1 am.1
    rw [an.2, am.2, ← Int.add_mul] at hs
    obtain ⟨h1, h2⟩ := ex_exact (fadd_lt _ _).1 hs (rep_whole (by omega))
    exact fint_some h1 h2 (by omega) (by omega)
  · have hprod : (n * m).natAbs ≤ 1125899906842624 := by
      rw [Int.natAbs_mul]
      calc n.natAbs * m.natAbs ≤ 33554432 * 33554432 := Nat.mul_le_mul (by omega) (by omega)
        _ = 1125899906842624 := by decide
    have hN : ∀ k : Int, ex (fof k) = k * (Un : Int) → NN (fof k % signB) = k.natAbs * Un := by
      intro k hk
      have : (ex (fof k)).natAbs = NN (fof k % signB) := by
        unfold ex
        rw [exact_NN]
        split <;> omega
      rw [← this, hk, Int.natAbs_mul, Int.natAbs_natCast]
    have hmul := mul_exact an.1 am.1
    rw [hN n an.2, hN m am.2] at hmul
    obtain ⟨u, hu, hU2⟩ := Un_def
    obtain ⟨r, hr1, hr2⟩ := rep (m := (n * m).natAbs) (by omega) u (by omega)
    have hr3 : NN r = (n * m).natAbs * Un := by
      rw [hU2]
      exact hr2
    have e1 : n.natAbs * Un * (m.natAbs * Un) = (n * m).natAbs * Un * 2 ^ u := by
      rw [Int.natAbs_mul, ← hU2]
      simp only [Nat.mul_assoc, Nat.mul_left_comm]
    have e2 : ∀ s : Bool, D.nearest s ((n * m).natAbs * Un * 2 ^ u) (-2148) = D.word s r := by
      intro s
      by_cases h0 : (n * m).natAbs * Un = 0
      · rw [h0, Nat.zero_mul, nearest_none]
        rw [h0] at hr3
        have : r = 0 := by
          have hz : NN r ≤ NN 0 := by rw [hr3, NN_zero]; exact Nat.le_refl _
          have := (NN_le hr1 (show 0 < infB by decide)).1 hz
          omega
        rw [this]
      · rw [nearest_scale s (e := -1074) (by omega) (by omega), ← hr3, (nearest_is s _ _).1]
        have := rung_exact hr1
        unfold NN
        rw [this]
    rw [e1, e2] at hmul
    obtain ⟨s, hs⟩ : ∃ s, s = (decide (signB ≤ fof n) ^^ decide (signB ≤ fof m)) := ⟨_, rfl⟩
    rw [← hs] at hmul
    rw [hmul]
    refine fint_some (fin_word s hr1) ?_ (by omega) (by omega)
    rw [ex_word s hr1, hr3]
    have hsgn : ∀ k : Int, Fin_ (fof k) → ex (fof k) = k * (Un : Int) → (if decide (signB ≤ fof k) = true then k ≤ 0 else 0 ≤ k) := by
      intro k hf hk
      unfold ex at hk
      rw [exact_NN] at hk
      by_cases d : signB ≤ fof k
      · rw [decide_eq_true d, if_pos rfl]
        rw [decide_eq_true d, if_pos rfl] at hk
        exact mulU_le.1 (by rw [Int.zero_mul]; omega)
      · rw [decide_eq_false d, if_neg (by decide)]
        rw [decide_eq_false d, if_neg (by decide)] at hk
        exact mulU_le.1 (by rw [Int.zero_mul]; omega)
    have sn := hsgn n an.1 an.2
    have sm := hsgn m am.1 am.2
    generalize decide (signB ≤ fof n) = p at sn hs
    generalize decide (signB ≤ fof m) = q at sm hs
    have hfin : if s = true then n * m ≤ 0 else 0 ≤ n * m := by
      subst hs
      cases p <;> cases q <;> simp only [Bool.false_eq_true, if_false, if_true, Bool.xor_false, Bool.xor_true, Bool.not_false, Bool.not_true] at sn sm ⊢
      · exact Int.mul_nonneg sn sm
      · exact Int.mul_nonpos_of_nonneg_of_nonpos sn sm
      · exact Int.mul_nonpos_of_nonpos_of_nonneg sn sm
      · exact Int.mul_nonneg_of_nonpos_of_nonpos sn sm
    generalize n * m = v at hfin ⊢
    cases s
    · simp only [Bool.false_eq_true, if_false] at hfin ⊢
      rw [Int.natCast_mul]
      congr 1
      omega
    · simp only [if_true] at hfin ⊢
      rw [Int.natCast_mul, ← Int.neg_mul]
      congr 1
      omega
  · rw [fless_val an.1.1 am.1.1, an.1.no, am.1.no]
    have : fval (fof n) < fval (fof m) ↔ n < m := by
      rw [ex_lt an.1 am.1, an.2, am.2]
      exact mulU_lt
    simp only [this, Bool.not_false, Bool.true_and]
end Go.Proofs.YtjloiclbknfomaaDoor
