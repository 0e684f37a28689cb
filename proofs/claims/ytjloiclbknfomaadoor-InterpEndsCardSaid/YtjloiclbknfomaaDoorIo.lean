/- Floats, plain: Less, Equal, Order, Min, Max. -/
import Derived.Test.YtjloiclbknfomaaDoorIf
set_option maxRecDepth 100000
namespace Go.Proofs.YtjloiclbknfomaaDoor
open Ieee

def fless (a b : Nat) : Bool := match D.order a b with | some .lt => true | _ => false
def fequal (a b : Nat) : Bool := match D.order a b with | some .eq => true | _ => false

theorem order_nan {a b : Nat} (ha : a < 2 * signB) (hb : b < 2 * signB) (h : isN a = true ∨ isN b = true) : D.order a b = none := by
  unfold Format.order
  rcases h with h | h
  · obtain ⟨s, f, hr⟩ := read_isN ha h
    rw [hr]
    cases D.read b <;> rfl
  · obtain ⟨s, f, hr⟩ := read_isN hb h
    rw [hr]
    cases D.read a <;> rfl

theorem fless_val {a b : Nat} (ha : a < 2 * signB) (hb : b < 2 * signB) : fless a b = (!isN a && !isN b && decide (fval a < fval b)) := by
  unfold fless
  by_cases h : isN a = true ∨ isN b = true
  · rw [order_nan ha hb h]
    rcases h with h | h <;> simp [h]
  · have h1 : isN a = false := by
      cases hx : isN a
      · rfl
      · exact absurd (.inl hx) h
    have h2 : isN b = false := by
      cases hx : isN b
      · rfl
      · exact absurd (.inr hx) h
    rw [order_val ha hb h1 h2, h1, h2]
    by_cases hlt : fval a < fval b
    · rw [Int.compare_eq_lt.2 hlt]
      simp [hlt]
    · have : compare (fval a) (fval b) ≠ .lt := fun e => hlt (Int.compare_eq_lt.1 e)
      simp only [hlt, decide_false, Bool.and_false]
      split
      · rename_i e
        injection e with e
        exact absurd e this
      · rfl
theorem fequal_val {a b : Nat} (ha : a < 2 * signB) (hb : b < 2 * signB) : fequal a b = (!isN a && !isN b && decide (fval a = fval b)) := by
  unfold fequal
  by_cases h : isN a = true ∨ isN b = true
  · rw [order_nan ha hb h]
    rcases h with h | h <;> simp [h]
  · have h1 : isN a = false := by
      cases hx : isN a
      · rfl
      · exact absurd (.inl hx) h
    have h2 : isN b = false := by
      cases hx : isN b
      · rfl
      · exact absurd (.inr hx) h
    rw [order_val ha hb h1 h2, h1, h2]
    by_cases hlt : fval a = fval b
    · rw [Int.compare_eq_eq.2 hlt]
      simp [hlt]
    · have : compare (fval a) (fval b) ≠ .eq := fun e => hlt (Int.compare_eq_eq.1 e)
      simp only [hlt, decide_false, Bool.and_false]
      split
      · rename_i e
        injection e with e
        exact absurd e this
      · rfl

/-- a number that stands as a number does in Order: package num's, and the document's -/
def fkey (a : Nat) : Nat := if isN a then 18446744073709551615 else if signB ≤ a then 18446744073709551615 - a else a + signB
def rrank (a : Nat) : Nat := if isN a then signB + infB + 1 else if signB ≤ a then 18446744073709551615 - a else a + signB
def forder (a b : Nat) : Int := if fkey a < fkey b then -1 else if fkey b < fkey a then 1 else 0
def rOrder (a b : Nat) : Int := if rrank a < rrank b then -1 else if rrank b < rrank a then 1 else 0

theorem isN_iff (a : Nat) : isN a = true ↔ infB < a % signB := by
  unfold isN
  exact decide_eq_true_iff

theorem key_rank {a b : Nat} (ha : a < 2 * signB) (hb : b < 2 * signB) : fkey a < fkey b ↔ rrank a < rrank b := by
  have h1 := isN_iff a
  have h2 := isN_iff b
  unfold fkey rrank
  unfold signB infB at *
  by_cases c1 : isN a = true
  · by_cases c2 : isN b = true
    · rw [if_pos c1, if_pos c1, if_pos c2, if_pos c2]
      omega
    · rw [if_pos c1, if_pos c1, if_neg c2, if_neg c2]
      rw [c1] at h1
      have := mt h2.2 c2
      split <;> omega
  · by_cases c2 : isN b = true
    · rw [if_neg c1, if_neg c1, if_pos c2, if_pos c2]
      have := mt h1.2 c1
      split <;> omega
    · rw [if_neg c1, if_neg c1, if_neg c2, if_neg c2]

theorem forder_eq {a b : Nat} (ha : a < 2 * signB) (hb : b < 2 * signB) : forder a b = rOrder a b := by
  unfold forder rOrder
  simp only [key_rank ha hb, key_rank hb ha]

/-- the document's Equal and Less -/
def rEqual (a b : Nat) : Bool := !isN a && !isN b && (decide (a = b) || (decide (a % signB = 0) && decide (b % signB = 0)))
def rLess (a b : Nat) : Bool := !isN a && !isN b && !rEqual a b && decide (rOrder a b < 0)

theorem fequal_eq {a b : Nat} (ha : a < 2 * signB) (hb : b < 2 * signB) : fequal a b = rEqual a b := by
  rw [fequal_val ha hb]
  unfold rEqual
  congr 1
  have : fval a = fval b ↔ (a = b ∨ (a % signB = 0 ∧ b % signB = 0)) := by
    unfold fval
    unfold signB at *
    split <;> split <;> omega
  by_cases h : fval a = fval b
  · rw [decide_eq_true h]
    rcases this.1 h with e | ⟨e1, e2⟩
    · simp [e]
    · simp [e1, e2]
  · rw [decide_eq_false h]
    have h2 := mt this.2 h
    rw [not_or, not_and] at h2
    have e1 : decide (a = b) = false := decide_eq_false h2.1
    rw [e1, Bool.false_or]
    by_cases h3 : a % signB = 0
    · rw [decide_eq_false (h2.2 h3), Bool.and_false]
    · rw [decide_eq_false h3, Bool.false_and]

theorem fless_eq {a b : Nat} (ha : a < 2 * signB) (hb : b < 2 * signB) : fless a b = rLess a b := by
  rw [fless_val ha hb]
  unfold rLess
  by_cases h1 : isN a = true
  · simp [h1]
  by_cases h2 : isN b = true
  · simp [h2]
  rw [Bool.not_eq_true] at h1 h2
  rw [← fequal_eq ha hb, fequal_val ha hb, h1, h2]
  simp only [Bool.not_false, Bool.true_and]
  have hr : rOrder a b < 0 ↔ rrank a < rrank b := by
    unfold rOrder
    split
    · rename_i h
      exact ⟨fun _ => h, fun _ => by decide⟩
    · rename_i h
      constructor
      · intro e
        split at e <;> omega
      · intro e
        exact absurd e h
  have key : fval a < fval b ↔ (¬ fval a = fval b ∧ rrank a < rrank b) := by
    unfold rrank
    rw [h1, h2]
    unfold fval
    unfold signB infB at *
    simp only [Bool.false_eq_true, if_false]
    split <;> split <;> omega
  by_cases h : fval a < fval b
  · obtain ⟨k1, k2⟩ := key.1 h
    rw [decide_eq_true h, decide_eq_false k1, decide_eq_true (hr.2 k2)]
    rfl
  · rw [decide_eq_false h]
    by_cases k1 : fval a = fval b
    · rw [decide_eq_true k1]
      rfl
    · rw [decide_eq_false k1, decide_eq_false (fun e => h (key.2 ⟨k1, hr.1 e⟩))]
      rfl

/-- the document's Min, Max -/
def rMin (a b : Nat) : Nat := if isN a || isN b then nanB else if rOrder a b ≤ 0 then a else b
def rMax (a b : Nat) : Nat := if isN a || isN b then nanB else if 0 ≤ rOrder a b then a else b

/-- NumLines: Order is one order -/
theorem order_turn {a b : Nat} : forder b a = -forder a b := by
  unfold forder
  split <;> split <;> first | omega | (split <;> omega) | rfl
theorem order_zero {a b : Nat} (ha : a < 2 * signB) (hb : b < 2 * signB) : forder a b = 0 ↔ fcan a = fcan b := by
  have h1 := isN_iff a
  have h2 := isN_iff b
  have hk : forder a b = 0 ↔ fkey a = fkey b := by
    unfold forder
    split
    · constructor
      · intro e; cases e
      · intro e; omega
    · split
      · constructor
        · intro e; cases e
        · intro e; omega
      · constructor
        · intro _; omega
        · intro _; rfl
  rw [hk]
  unfold fkey fcan nanB
  unfold signB infB at *
  by_cases c1 : isN a = true
  · have d1 := h1.1 c1
    rw [if_pos c1, if_pos c1]
    by_cases c2 : isN b = true
    · rw [if_pos c2, if_pos c2]
      simp
    · have d2 := mt h2.2 c2
      rw [if_neg c2, if_neg c2]
      split <;> omega
  · have d1 := mt h1.2 c1
    rw [if_neg c1, if_neg c1]
    by_cases c2 : isN b = true
    · have d2 := h2.1 c2
      rw [if_pos c2, if_pos c2]
      split <;> omega
    · rw [if_neg c2, if_neg c2]
      split <;> split <;> omega
theorem order_trans {a b c : Nat} (h1 : forder a b ≤ 0) (h2 : forder b c ≤ 0) : forder a c ≤ 0 := by
  have hk : ∀ x y : Nat, forder x y ≤ 0 ↔ fkey x ≤ fkey y := by
    intro x y
    unfold forder
    split
    · constructor <;> intro _ <;> omega
    · split
      · constructor <;> intro _ <;> omega
      · constructor <;> intro _ <;> omega
  rw [hk] at *
  omega
end Go.Proofs.YtjloiclbknfomaaDoor
