/- What the document's Parse reads of a text: the digits that it begins with, and their number, which stays small (plain). -/
import Derived.Test.YtjlnbfpjlladoaaGreatDoorJc
set_option maxRecDepth 100000
namespace Go.Proofs.YtjlnbfpjlladoaaGreatDoor
open Ieee

def satStep (a : Nat) (c : UInt8) : Nat := if a < 288230376151711744 then 10 * a + (c.toNat - 48) else 4611686018427387904
def satFrom (a : Nat) (l : List UInt8) : Nat := l.foldl satStep a
def sat (l : List UInt8) : Nat := satFrom 0 l
theorem sat_snoc (l : List UInt8) (c : UInt8) : sat (l ++ [c]) = satStep (sat l) c := by
  unfold sat satFrom
  rw [List.foldl_append]
  rfl
theorem satStep_le (a : Nat) (c : UInt8) : satStep a c ≤ 4611686018427387904 := by
  unfold satStep
  have := c.toNat_lt
  split <;> omega
theorem satFrom_le : ∀ (l : List UInt8) (a : Nat), a ≤ 4611686018427387904 → satFrom a l ≤ 4611686018427387904
  | [], a, h => h
  | c :: l, a, _ => satFrom_le l (satStep a c) (satStep_le a c)
theorem sat_le (l : List UInt8) : sat l ≤ 4611686018427387904 := satFrom_le l 0 (by decide)
theorem sat_from : ∀ (l : List UInt8) (a b : Nat), (a = b ∨ (288230376151711744 ≤ a ∧ 288230376151711744 ≤ b)) → (satFrom a l = dvalFrom b l ∨ (288230376151711744 ≤ satFrom a l ∧ 288230376151711744 ≤ dvalFrom b l))
  | [], a, b, h => by
    rw [dvalFrom_nil]
    exact h
  | c :: l, a, b, h => by
    rw [dvalFrom_cons]
    refine sat_from l (satStep a c) (10 * b + (c.toNat - 48)) ?_
    unfold satStep
    split <;> omega
theorem sat_or (l : List UInt8) : sat l = dval l ∨ (288230376151711744 ≤ sat l ∧ 288230376151711744 ≤ dval l) := sat_from l 0 0 (.inl rfl)

def lead : List UInt8 → Nat
  | [] => 0
  | c :: l => if isDig c = true then lead l + 1 else 0
theorem lead_le : ∀ (l : List UInt8), lead l ≤ l.length
  | [] => Nat.le_refl _
  | c :: l => by
    have := lead_le l
    rw [lead, List.length_cons]
    split <;> omega
theorem lead_all : ∀ (l : List UInt8), (l.take (lead l)).all isDig = true
  | [] => rfl
  | c :: l => by
    have := lead_all l
    rw [lead]
    by_cases h : isDig c = true
    · rw [if_pos h, List.take_succ_cons, List.all_cons, h, this]
      rfl
    · rw [if_neg h]
      rfl
theorem lead_stop : ∀ (l : List UInt8) (h : lead l < l.length), isDig (l[lead l]'h) = false
  | [], h => absurd h (Nat.not_lt_zero _)
  | c :: l, h => by
    by_cases k : isDig c = true
    · have e : lead (c :: l) = lead l + 1 := by rw [lead, if_pos k]
      have h2 : lead l < l.length := by
        rw [e, List.length_cons] at h
        omega
      have := lead_stop l h2
      simp only [e, List.getElem_cons_succ]
      exact this
    · have e : lead (c :: l) = 0 := by rw [lead, if_neg k]
      simp only [e, List.getElem_cons_zero]
      exact Bool.eq_false_iff.2 k
theorem lead_is : ∀ (l : List UInt8) (n : Nat), n ≤ l.length → (l.take n).all isDig = true → (∀ h : n < l.length, isDig (l[n]'h) = false) → lead l = n
  | [], n, h, _, _ => by
    rw [lead]
    exact (Nat.le_zero.1 h).symm
  | c :: l, 0, _, _, hs => by
    have := hs (Nat.succ_pos _)
    rw [lead, if_neg]
    rw [List.getElem_cons_zero] at this
    rw [this]
    decide
  | c :: l, n + 1, h, ha, hs => by
    rw [List.take_succ_cons, List.all_cons, Bool.and_eq_true] at ha
    rw [lead, if_pos ha.1, lead_is l n (by rw [List.length_cons] at h; omega) ha.2 (fun k => by
      have := hs (by rw [List.length_cons]; omega)
      rw [List.getElem_cons_succ] at this
      exact this)]
theorem canon_take {l : List UInt8} {j : Nat} (hj : j ≤ l.length) (ha : (l.take j).all isDig = true) : canonB (l.take j) = (decide (j = 1) || (decide (1 < j) && decide ((l.getD 0 0).toNat ≠ 48))) := by
  unfold canonB
  rw [ha, Bool.true_and]
  match j, l, hj with
  | 0, l, _ => simp
  | 1, c :: l, _ =>
    by_cases h : c = 48
    · simp [h]
    · have : c.toNat ≠ 48 := fun e => h (UInt8.toNat_inj.1 e)
      simp [this]
  | j + 2, c :: d :: l, _ =>
    simp

/-- the text's first part: digits, an odd number, and a 'p' behind it -/
theorem head_ok {t : List UInt8} (h : lead t < t.length) (hp : t[lead t]'h = 112) : Lib.indexByte t 112 = (lead t : Int) := by
  have h1 := digs_no (lead_all t) (c := 112) (by decide)
  have h2 : t = t.take (lead t) ++ 112 :: t.drop (lead t + 1) := by
    rw [← hp, List.getElem_cons_drop, List.take_append_drop]
  have h3 := (index_at (a := t.take (lead t)) (b := t.drop (lead t + 1)) h1).1
  rw [← h2, List.length_take] at h3
  rw [h3]
  congr 1
  omega
theorem head_no {t : List UInt8} {i : Nat} (hi : Lib.indexByte t 112 = (i : Int)) (hlt : i < t.length) (ht : t = t.take i ++ 112 :: t.drop (i + 1)) (ha : (t.take i).all isDig = true) : lead t = i ∧ t[i]'hlt = 112 := by
  have h1 : t[i]'hlt = 112 := by
    have h2 : (t.take i ++ 112 :: t.drop (i + 1))[i]? = some 112 := by
      rw [List.getElem?_append_right (by rw [List.length_take]; omega), List.length_take, show i - min i t.length = 0 by omega]
      rfl
    rw [← ht, List.getElem?_eq_getElem hlt] at h2
    exact Option.some.inj h2
  refine ⟨lead_is t i (Nat.le_of_lt hlt) ha fun h => ?_, h1⟩
  rw [h1]
  decide
end Go.Proofs.YtjlnbfpjlladoaaGreatDoor
