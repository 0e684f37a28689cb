/- Floats, plain: classes, the lesser and the greater. -/
import Derived.Test.YtjloiclbknfomaaDoorIx
set_option maxRecDepth 100000
namespace Go.Proofs.YtjloiclbknfomaaDoor
open Ieee

def fclass (a : Nat) : Int := if infB < a % signB then 0 else if a % signB = infB then 1 else if a % signB = 0 then 2 else if a % signB < 4503599627370496 then 3 else 4

theorem read_sign {a : Nat} (h : a < 2 * signB) : (D.read a).neg = decide (signB ≤ a) := by
  obtain ⟨h1, h2⟩ := word_of h
  generalize decide (signB ≤ a) = s at h1 ⊢
  generalize a % signB = r at h1 h2
  subst h1
  rw [read_word _ _ h2]
  split
  · rfl
  split
  · rfl
  split <;> rfl

def fmin (a b : Nat) : Nat := if isN a || isN b then nanB else match D.order a b with
  | some .lt => a
  | some .gt => b
  | _ => if (D.read a).neg then a else b
def fmax (a b : Nat) : Nat := if isN a || isN b then nanB else match D.order a b with
  | some .lt => b
  | some .gt => a
  | _ => if (D.read a).neg then b else a

theorem rOrder_le (a b : Nat) : rOrder a b ≤ 0 ↔ rrank a ≤ rrank b := by
  unfold rOrder
  split
  · constructor <;> intro _ <;> omega
  · split
    · constructor <;> intro _ <;> omega
    · constructor <;> intro _ <;> omega
theorem rOrder_ge (a b : Nat) : 0 ≤ rOrder a b ↔ rrank b ≤ rrank a := by
  unfold rOrder
  split
  · constructor <;> intro _ <;> omega
  · split
    · constructor <;> intro _ <;> omega
    · constructor <;> intro _ <;> omega

/-- how values and ranks go together -/
theorem rank_cases {a b : Nat} (ha : a < 2 * signB) (hb : b < 2 * signB) (h1 : isN a = false) (h2 : isN b = false) :
    (fval a < fval b → rrank a < rrank b) ∧ (fval b < fval a → rrank b < rrank a) ∧ (fval a = fval b → signB ≤ a → rrank a ≤ rrank b) ∧ (fval a = fval b → ¬ signB ≤ a → rrank b ≤ rrank a) ∧ (rrank a = rrank b → a = b) := by
  unfold rrank
  rw [h1, h2]
  simp only [Bool.false_eq_true, if_false]
  unfold fval
  by_cases sa : signB ≤ a
  · by_cases sb : signB ≤ b
    · rw [if_pos sa, if_pos sb, if_pos sa, if_pos sb]
      unfold signB at *
      refine ⟨?_, ?_, ?_, ?_, ?_⟩ <;> intros <;> omega
    · rw [if_pos sa, if_neg sb, if_pos sa, if_neg sb]
      unfold signB at *
      refine ⟨?_, ?_, ?_, ?_, ?_⟩ <;> intros <;> omega
  · by_cases sb : signB ≤ b
    · rw [if_neg sa, if_pos sb, if_neg sa, if_pos sb]
      unfold signB at *
      refine ⟨?_, ?_, ?_, ?_, ?_⟩ <;> intros <;> omega
    · rw [if_neg sa, if_neg sb, if_neg sa, if_neg sb]
      unfold signB at *
      refine ⟨?_, ?_, ?_, ?_, ?_⟩ <;> intros <;> omega

theorem fmin_eq {a b : Nat} (ha : a < 2 * signB) (hb : b < 2 * signB) : fmin a b = rMin a b := by
  unfold fmin rMin
  by_cases h1 : isN a = true
  · simp [h1]
  by_cases h2 : isN b = true
  · simp [h2]
  rw [Bool.not_eq_true] at h1 h2
  obtain ⟨r1, r2, r3, r4, r5⟩ := rank_cases ha hb h1 h2
  have hle := rOrder_le a b
  have hn : (false || false) ≠ true := fun e => nomatch e
  rw [order_val ha hb h1 h2, h1, h2, read_sign ha, if_neg hn, if_neg hn]
  rcases Int.lt_trichotomy (fval a) (fval b) with h | h | h
  · rw [Int.compare_eq_lt.2 h, if_pos (hle.2 (Nat.le_of_lt (r1 h)))]
  · rw [Int.compare_eq_eq.2 h]
    show (if decide (signB ≤ a) = true then a else b) = _
    by_cases d : signB ≤ a
    · rw [decide_eq_true d, if_pos rfl, if_pos (hle.2 (r3 h d))]
    · have hd : decide (signB ≤ a) ≠ true := fun e => d (of_decide_eq_true e)
      rw [if_neg hd]
      by_cases c : rOrder a b ≤ 0
      · rw [if_pos c]
        exact (r5 (Nat.le_antisymm (hle.1 c) (r4 h d))).symm
      · rw [if_neg c]
  · have hg : ¬ rOrder a b ≤ 0 := fun c => by
      have := hle.1 c
      have := r2 h
      omega
    rw [Int.compare_eq_gt.2 h]
    exact (if_neg hg).symm

theorem fmax_eq {a b : Nat} (ha : a < 2 * signB) (hb : b < 2 * signB) : fmax a b = rMax a b := by
  unfold fmax rMax
  by_cases h1 : isN a = true
  · simp [h1]
  by_cases h2 : isN b = true
  · simp [h2]
  rw [Bool.not_eq_true] at h1 h2
  obtain ⟨r1, r2, r3, r4, r5⟩ := rank_cases ha hb h1 h2
  have hle := rOrder_ge a b
  have hn : (false || false) ≠ true := fun e => nomatch e
  rw [order_val ha hb h1 h2, h1, h2, read_sign ha, if_neg hn, if_neg hn]
  rcases Int.lt_trichotomy (fval a) (fval b) with h | h | h
  · have hg : ¬ 0 ≤ rOrder a b := fun c => by
      have := hle.1 c
      have := r1 h
      omega
    rw [Int.compare_eq_lt.2 h]
    exact (if_neg hg).symm
  · rw [Int.compare_eq_eq.2 h]
    show (if decide (signB ≤ a) = true then b else a) = _
    by_cases d : signB ≤ a
    · rw [decide_eq_true d, if_pos rfl]
      by_cases c : 0 ≤ rOrder a b
      · rw [if_pos c]
        exact (r5 (Nat.le_antisymm (r3 h d) (hle.1 c))).symm
      · rw [if_neg c]
    · have hd : decide (signB ≤ a) ≠ true := fun e => d (of_decide_eq_true e)
      rw [if_neg hd, if_pos (hle.2 (r4 h d))]
  · rw [Int.compare_eq_gt.2 h, if_pos (hle.2 (Nat.le_of_lt (r2 h)))]

/-- NumPairs -/
theorem pairs {a b : Nat} (ha : a < 2 * signB) (hb : b < 2 * signB) (h1 : isN a = false) (h2 : isN b = false) :
    ((fmin a b = a ∧ fmax a b = b) ∨ (fmin a b = b ∧ fmax a b = a)) ∧ forder (fmin a b) (fmax a b) ≤ 0 ∧ fmin b a = fmin a b ∧ fmax b a = fmax a b := by
  rw [fmin_eq ha hb, fmax_eq ha hb, fmin_eq hb ha, fmax_eq hb ha]
  have l1 := rOrder_le a b
  have l2 := rOrder_ge a b
  have l3 := rOrder_le b a
  have l4 := rOrder_ge b a
  have inj := (rank_cases ha hb h1 h2).2.2.2.2
  unfold rMin rMax
  rw [h1, h2]
  simp only [Bool.or_self, Bool.false_eq_true, if_false]
  rcases Nat.lt_trichotomy (rrank a) (rrank b) with h | h | h
  · rw [if_pos (l1.2 (by omega)), if_neg (mt l2.1 (by omega)), if_neg (mt l3.1 (by omega)), if_pos (l4.2 (by omega)), forder_eq ha hb]
    exact ⟨.inl ⟨rfl, rfl⟩, l1.2 (by omega), rfl, rfl⟩
  · have e := inj h
    subst e
    rw [forder_eq (by split <;> assumption) (by split <;> assumption)]
    have := l1.2 (Nat.le_refl _)
    have := l2.2 (Nat.le_refl _)
    simp only [ite_self]
    exact ⟨.inl ⟨trivial, trivial⟩, l1.2 (Nat.le_refl _), trivial, trivial⟩
  · rw [if_neg (mt l1.1 (by omega)), if_pos (l2.2 (by omega)), if_pos (l3.2 (by omega)), if_neg (mt l4.1 (by omega)), forder_eq hb ha]
    exact ⟨.inr ⟨rfl, rfl⟩, l3.2 (by omega), rfl, rfl⟩

theorem class_nan (a : Nat) : fclass a = 0 ↔ isN a = true := by
  unfold fclass isN
  by_cases h : infB < a % signB
  · simp [h]
  · rw [if_neg h, decide_eq_false h]
    constructor
    · intro e
      split at e
      · cases e
      · split at e
        · cases e
        · split at e <;> cases e
    · intro e
      cases e
theorem class_zero (a : Nat) : fclass a = 2 ↔ a % signB = 0 := by
  unfold fclass infB
  constructor
  · intro e
    repeat' split at e
    all_goals first | omega | assumption
  · intro e
    rw [if_neg (by omega), if_neg (by omega), if_pos e]
theorem class_plain (a : Nat) : fclass a = 4 ↔ 4503599627370496 ≤ a % signB ∧ a % signB < infB := by
  unfold fclass infB
  constructor
  · intro e
    repeat' split at e
    all_goals first | omega | exact ⟨by omega, by omega⟩
  · rintro ⟨e1, e2⟩
    rw [if_neg (by omega), if_neg (by omega), if_neg (by omega), if_neg (by omega)]

/-- NumLines' last -/
theorem lines_less {a b : Nat} (ha : a < 2 * signB) (hb : b < 2 * signB) (h1 : isN a = false) (h2 : isN b = false) :
    (fless a b = (decide (forder a b < 0) && !(decide (a % signB = 0) && decide (b % signB = 0)))) ∧ (fequal a b = (decide (forder a b = 0) || (decide (a % signB = 0) && decide (b % signB = 0)))) := by
  rw [fless_val ha hb, fequal_val ha hb, h1, h2, forder_eq ha hb]
  have l1 := rOrder_le a b
  have l2 := rOrder_ge a b
  have e1 : rOrder a b < 0 ↔ rrank a < rrank b := by omega
  have e2 : rOrder a b = 0 ↔ rrank a = rrank b := by omega
  simp only [e1, e2, Bool.not_false, Bool.true_and]
  have k1 : fval a < fval b ↔ (rrank a < rrank b ∧ ¬ (a % signB = 0 ∧ b % signB = 0)) := by
    unfold rrank
    rw [h1, h2]
    simp only [Bool.false_eq_true, if_false]
    unfold fval
    by_cases sa : signB ≤ a
    · by_cases sb : signB ≤ b
      · rw [if_pos sa, if_pos sb, if_pos sa, if_pos sb]
        unfold signB at *
        omega
      · rw [if_pos sa, if_neg sb, if_pos sa, if_neg sb]
        unfold signB at *
        omega
    · by_cases sb : signB ≤ b
      · rw [if_neg sa, if_pos sb, if_neg sa, if_pos sb]
        unfold signB at *
        omega
      · rw [if_neg sa, if_neg sb, if_neg sa, if_neg sb]
        unfold signB at *
        omega
  have k2 : fval a = fval b ↔ (rrank a = rrank b ∨ (a % signB = 0 ∧ b % signB = 0)) := by
    unfold rrank
    rw [h1, h2]
    simp only [Bool.false_eq_true, if_false]
    unfold fval
    by_cases sa : signB ≤ a
    · by_cases sb : signB ≤ b
      · rw [if_pos sa, if_pos sb, if_pos sa, if_pos sb]
        unfold signB at *
        omega
      · rw [if_pos sa, if_neg sb, if_pos sa, if_neg sb]
        unfold signB at *
        omega
    · by_cases sb : signB ≤ b
      · rw [if_neg sa, if_pos sb, if_neg sa, if_pos sb]
        unfold signB at *
        omega
      · rw [if_neg sa, if_neg sb, if_neg sa, if_neg sb]
        unfold signB at *
        omega
  simp only [k1, k2, Bool.decide_and, Bool.decide_or, decide_not, Bool.not_and]
  exact ⟨trivial, trivial⟩
end Go.Proofs.YtjloiclbknfomaaDoor
