/- Floats: what the machine's operations give, the one NaN being told by 'fcan'. -/
import Derived.Test.YtjloiclbknfomaaDoorIn
import Derived.Laws.Externs
import Derived.Laws.NewFold
import Derived.WalkLawsBesides
set_option maxRecDepth 100000
namespace Go.Proofs.YtjloiclbknfomaaDoor
open Ieee

/-- a NaN that the machine draws -/
def drawnNaN (t : Nat) : Nat := (t % 2) * 2 ^ 63 + 0x7ff0000000000000 + 1 + (t / 2) % (2 ^ 52 - 1)
theorem drawn_nan (t : Nat) : isN (drawnNaN t) = true ∧ drawnNaN t < 2 * signB ∧ fcan (drawnNaN t) = nanB := by
  have h1 : drawnNaN t = (t % 2) * 9223372036854775808 + 9218868437227405312 + 1 + (t / 2) % 4503599627370495 := by
    unfold drawnNaN
    rfl
  have hx : t % 2 < 2 := Nat.mod_lt _ (by decide)
  have hy : (t / 2) % 4503599627370495 < 4503599627370495 := Nat.mod_lt _ (by decide)
  obtain ⟨x, ex⟩ : ∃ x, x = t % 2 := ⟨_, rfl⟩
  obtain ⟨y, ey⟩ : ∃ y, y = (t / 2) % 4503599627370495 := ⟨_, rfl⟩
  rw [← ex, ← ey] at h1
  rw [← ex] at hx
  rw [← ey] at hy
  clear ex ey
  have h2 : isN (drawnNaN t) = true := by
    rw [isN_iff, h1]
    unfold infB signB
    omega
  refine ⟨h2, ?_, ?_⟩
  · rw [h1]
    unfold signB
    omega
  · unfold fcan
    rw [if_pos h2]

section
variable {P : Program} (w : World)
theorem choose_nan (x y : Nat) : ∃ t, (choose (.nanBits .f64 x y)).run P w = .ok (drawnNaN t) w.drew := ⟨w.tape w.drawn (.nanBits .f64 x y), by rw [run_choose_drew]; rfl⟩

theorem nan_cut (x y t : Nat) : (Question.nanBits .f64 x y).cut t = drawnNaN t := rfl
theorem nan_free (x y : Nat) : (Question.nanBits .f64 x y).forced = false := rfl
theorem minmax_cut (b : Bool) (x y t : Nat) : (Question.nanMinMax .f64 b x y).cut t = drawnNaN t := rfl
theorem minmax_free (b : Bool) (x y : Nat) : (Question.nanMinMax .f64 b x y).forced = false := rfl
theorem drew_one : w.drew = w.drewN 1 := rfl
theorem drew_none : w = w.drewN 0 := rfl

theorem add_run (t : TypeId) (x y : Nat) : ∃ v n, v < 2 * signB ∧ fcan v = fadd x y ∧ (binOp .add t (.float .f64 x) (.float .f64 y)).run P w = .ok (.float .f64 v) (w.drewN n) := by
  have hl := fadd_lt x y
  cases h : D.add x y with
  | some r =>
    have e : fadd x y = r := by
      unfold fadd
      rw [h]
      rfl
    rw [e] at hl ⊢
    exact ⟨r, 0, hl.1, hl.2, run_float_arith w .add t .f64 x y r h⟩
  | none =>
    obtain ⟨u, hu⟩ : ∃ u, u = w.tape w.drawn (.nanBits .f64 x y) := ⟨_, rfl⟩
    have e : fadd x y = nanB := by
      unfold fadd
      rw [h]
      rfl
    have h' : FloatKind.f64.format.add x y = none := h
    refine ⟨drawnNaN u, 1, (drawn_nan u).2.1, (drawn_nan u).2.2.trans e.symm, ?_⟩
    simp [binOp, Op.floatArith, h', nan_cut, nan_free, hu]
    rfl
theorem sub_run (t : TypeId) (x y : Nat) : ∃ v n, v < 2 * signB ∧ fcan v = fsub x y ∧ (binOp .sub t (.float .f64 x) (.float .f64 y)).run P w = .ok (.float .f64 v) (w.drewN n) := by
  have hl := fsub_lt x y
  cases h : D.sub x y with
  | some r =>
    have e : fsub x y = r := by
      unfold fsub
      rw [h]
      rfl
    rw [e] at hl ⊢
    exact ⟨r, 0, hl.1, hl.2, run_float_arith w .sub t .f64 x y r h⟩
  | none =>
    obtain ⟨u, hu⟩ : ∃ u, u = w.tape w.drawn (.nanBits .f64 x y) := ⟨_, rfl⟩
    have e : fsub x y = nanB := by
      unfold fsub
      rw [h]
      rfl
    have h' : FloatKind.f64.format.sub x y = none := h
    refine ⟨drawnNaN u, 1, (drawn_nan u).2.1, (drawn_nan u).2.2.trans e.symm, ?_⟩
    simp [binOp, Op.floatArith, h', nan_cut, nan_free, hu]
    rfl
theorem mul_run (t : TypeId) (x y : Nat) : ∃ v n, v < 2 * signB ∧ fcan v = fmul x y ∧ (binOp .mul t (.float .f64 x) (.float .f64 y)).run P w = .ok (.float .f64 v) (w.drewN n) := by
  have hl := fmul_lt x y
  cases h : D.mul x y with
  | some r =>
    have e : fmul x y = r := by
      unfold fmul
      rw [h]
      rfl
    rw [e] at hl ⊢
    exact ⟨r, 0, hl.1, hl.2, run_float_arith w .mul t .f64 x y r h⟩
  | none =>
    obtain ⟨u, hu⟩ : ∃ u, u = w.tape w.drawn (.nanBits .f64 x y) := ⟨_, rfl⟩
    have e : fmul x y = nanB := by
      unfold fmul
      rw [h]
      rfl
    have h' : FloatKind.f64.format.mul x y = none := h
    refine ⟨drawnNaN u, 1, (drawn_nan u).2.1, (drawn_nan u).2.2.trans e.symm, ?_⟩
    simp [binOp, Op.floatArith, h', nan_cut, nan_free, hu]
    rfl
theorem div_run (t : TypeId) (x y : Nat) : ∃ v n, v < 2 * signB ∧ fcan v = fdiv x y ∧ (binOp .quo t (.float .f64 x) (.float .f64 y)).run P w = .ok (.float .f64 v) (w.drewN n) := by
  have hl := fdiv_lt x y
  cases h : D.div x y with
  | some r =>
    have e : fdiv x y = r := by
      unfold fdiv
      rw [h]
      rfl
    rw [e] at hl ⊢
    exact ⟨r, 0, hl.1, hl.2, run_float_arith w .quo t .f64 x y r h⟩
  | none =>
    obtain ⟨u, hu⟩ : ∃ u, u = w.tape w.drawn (.nanBits .f64 x y) := ⟨_, rfl⟩
    have e : fdiv x y = nanB := by
      unfold fdiv
      rw [h]
      rfl
    have h' : FloatKind.f64.format.div x y = none := h
    refine ⟨drawnNaN u, 1, (drawn_nan u).2.1, (drawn_nan u).2.2.trans e.symm, ?_⟩
    simp [binOp, Op.floatArith, h', nan_cut, nan_free, hu]
    rfl

theorem choose_minmax (b : Bool) (x y : Nat) : ∃ t, (choose (.nanMinMax .f64 b x y)).run P w = .ok (drawnNaN t) w.drew := ⟨w.tape w.drawn (.nanMinMax .f64 b x y), by rw [run_choose_drew]; rfl⟩

theorem order_some {x y : Nat} (hx : x < 2 * signB) (hy : y < 2 * signB) : D.order x y = none ↔ (isN x = true ∨ isN y = true) := by
  constructor
  · intro h
    by_cases c1 : isN x = true
    · exact .inl c1
    · by_cases c2 : isN y = true
      · exact .inr c2
      · rw [Bool.not_eq_true] at c1 c2
        rw [order_val hx hy c1 c2] at h
        cases h
  · exact order_nan hx hy

theorem fcan_plain {x : Nat} (h : isN x = false) : fcan x = x := by
  unfold fcan
  rw [h, if_neg (by decide)]

theorem min_run (ts : Array TypeId) (t : TypeId) {x y : Nat} (hx : x < 2 * signB) (hy : y < 2 * signB) : ∃ v n, v < 2 * signB ∧ fcan v = fmin x y ∧ (Builtin.min_ ts t #[.float .f64 x, .float .f64 y]).run P w = .ok (.float .f64 v) (w.drewN n) := by
  have hmin : Builtin.min_ ts t #[.float .f64 x, .float .f64 y] = Builtin.min2 (.float .f64 x) (.float .f64 y) := by
    simp [Builtin.min_]
  have ho := order_some hx hy
  cases h : D.order x y with
  | none =>
    obtain ⟨u, hu⟩ : ∃ u, u = w.tape w.drawn (.nanMinMax .f64 false x y) := ⟨_, rfl⟩
    have h' : FloatKind.f64.format.order x y = none := h
    have e : fmin x y = nanB := by
      unfold fmin
      rcases ho.1 h with c | c <;> simp [c]
    refine ⟨drawnNaN u, 1, (drawn_nan u).2.1, (drawn_nan u).2.2.trans e.symm, ?_⟩
    rw [hmin]
    simp [Builtin.min2, h', minmax_cut, minmax_free, hu]
    rfl
  | some o =>
    have hn : ¬ (isN x = true ∨ isN y = true) := fun c => by rw [ho.2 c] at h; cases h
    rw [not_or, Bool.not_eq_true, Bool.not_eq_true] at hn
    have h' : FloatKind.f64.format.order x y = some o := h
    have e : fmin x y = match (some o : Option Ordering) with
      | some .lt => x
      | some .gt => y
      | _ => if (D.read x).neg then x else y := by
      unfold fmin
      rw [hn.1, hn.2, h]
      rfl
    cases o with
    | lt => exact ⟨x, 0, hx, (fcan_plain hn.1).trans e.symm, by rw [hmin]; simp only [Builtin.min2, h']; rfl⟩
    | gt => exact ⟨y, 0, hy, (fcan_plain hn.2).trans e.symm, by rw [hmin]; simp only [Builtin.min2, h']; rfl⟩
    | eq =>
      by_cases c : (D.read x).neg = true
      · refine ⟨x, 0, hx, (fcan_plain hn.1).trans ?_, ?_⟩
        · rw [e]
          simp [c]
        · rw [hmin]
          have c' : (FloatKind.f64.decode x).neg = true := c
          simp only [Builtin.min2, h', c']
          rfl
      · refine ⟨y, 0, hy, (fcan_plain hn.2).trans ?_, ?_⟩
        · rw [e]
          simp [c]
        · rw [hmin]
          have c' : (FloatKind.f64.decode x).neg = false := by rw [Bool.not_eq_true] at c; exact c
          simp only [Builtin.min2, h', c']
          rfl
theorem max_run (ts : Array TypeId) (t : TypeId) {x y : Nat} (hx : x < 2 * signB) (hy : y < 2 * signB) : ∃ v n, v < 2 * signB ∧ fcan v = fmax x y ∧ (Builtin.max_ ts t #[.float .f64 x, .float .f64 y]).run P w = .ok (.float .f64 v) (w.drewN n) := by
  have hmax : Builtin.max_ ts t #[.float .f64 x, .float .f64 y] = Builtin.max2 (.float .f64 x) (.float .f64 y) := by
    simp [Builtin.max_]
  have ho := order_some hx hy
  cases h : D.order x y with
  | none =>
    obtain ⟨u, hu⟩ : ∃ u, u = w.tape w.drawn (.nanMinMax .f64 true x y) := ⟨_, rfl⟩
    have h' : FloatKind.f64.format.order x y = none := h
    have e : fmax x y = nanB := by
      unfold fmax
      rcases ho.1 h with c | c <;> simp [c]
    refine ⟨drawnNaN u, 1, (drawn_nan u).2.1, (drawn_nan u).2.2.trans e.symm, ?_⟩
    rw [hmax]
    simp [Builtin.max2, h', minmax_cut, minmax_free, hu]
    rfl
  | some o =>
    have hn : ¬ (isN x = true ∨ isN y = true) := fun c => by rw [ho.2 c] at h; cases h
    rw [not_or, Bool.not_eq_true, Bool.not_eq_true] at hn
    have h' : FloatKind.f64.format.order x y = some o := h
    have e : fmax x y = match (some o : Option Ordering) with
      | some .lt => y
      | some .gt => x
      | _ => if (D.read x).neg then y else x := by
      unfold fmax
      rw [hn.1, hn.2, h]
      rfl
    cases o with
    | lt => exact ⟨y, 0, hy, (fcan_plain hn.2).trans e.symm, by rw [hmax]; simp only [Builtin.max2, h']; rfl⟩
    | gt => exact ⟨x, 0, hx, (fcan_plain hn.1).trans e.symm, by rw [hmax]; simp only [Builtin.max2, h']; rfl⟩
    | eq =>
      by_cases c : (D.read x).neg = true
      · refine ⟨y, 0, hy, (fcan_plain hn.2).trans ?_, ?_⟩
        · rw [e]
          simp [c]
        · rw [hmax]
          have c' : (FloatKind.f64.decode x).neg = true := c
          simp only [Builtin.max2, h', c']
          rfl
      · refine ⟨x, 0, hx, (fcan_plain hn.1).trans ?_, ?_⟩
        · rw [e]
          simp [c]
        · rw [hmax]
          have c' : (FloatKind.f64.decode x).neg = false := by rw [Bool.not_eq_true] at c; exact c
          simp only [Builtin.max2, h', c']
          rfl
end
end Go.Proofs.YtjloiclbknfomaaDoor
