/- Floats, plain: what Int tells, by the odd part of the amount (NumWhole). -/
import Derived.Test.YtjloiclbknfomaaDoorIu
set_option maxRecDepth 100000
namespace Go.Proofs.YtjloiclbknfomaaDoor
open Go.RowKit Ieee

theorem ex_amount (a : Nat) : ex a = if signB ≤ a then -((NN (a % signB) : Nat) : Int) else ((NN (a % signB) : Nat) : Int) := by
  unfold ex exact NN
  rw [signed_up]
  by_cases c : signB ≤ a
  · rw [decide_eq_true c, if_pos c, if_pos rfl]
  · rw [decide_eq_false c, if_neg c, if_neg (by decide)]
theorem fint_none {a : Nat} (h : ∀ n, fint a ≠ some n) : fintR a = (0, 11) := by
  unfold fintR
  cases hf : fint a with
  | none => rfl
  | some n => exact absurd hf (h n)
theorem int_inf {a : Nat} (ha : a < 2 * signB) (h : infB ≤ a % signB) : fintR a = (0, 11) := fint_none fun n hn => by
  have := (fint_back ha hn).1.2
  omega
theorem int_zero {a : Nat} (ha : a < 2 * signB) (h : a % signB < infB) (h0 : takenM (a % signB) = 0) : fintR a = (0, 0) := by
  refine fint_yes (fint_some (n := 0) ⟨ha, h⟩ ?_ (by decide) (by decide))
  rw [ex_amount]
  unfold NN
  rw [h0, Nat.zero_mul]
  simp
theorem abs_ex (a : Nat) : (ex a).natAbs = NN (a % signB) := by
  rw [ex_amount]
  split <;> omega

def intR (a o : Nat) (E : Int) : Int × Int :=
  if E < 0 ∨ 63 < E then (0, 11)
  else if signB ≤ a then (if o * 2 ^ E.toNat ≤ signB then (-((o * 2 ^ E.toNat : Nat) : Int), 0) else (0, 11))
  else (if o * 2 ^ E.toNat < signB then (((o * 2 ^ E.toNat : Nat) : Int), 0) else (0, 11))

theorem int_odd {a o t : Nat} (ha : a < 2 * signB) (hr : a % signB < infB) (hm : takenM (a % signB) = o * 2 ^ t) (ho : o % 2 = 1) :
    fintR a = intR a o (takenE (a % signB) + t) := by
  have hge := takenE_ge (a % signB)
  obtain ⟨d, hd⟩ : ∃ d : Nat, d = (takenE (a % signB) + 1074).toNat := ⟨_, rfl⟩
  have hN : NN (a % signB) = o * 2 ^ (t + d) := by
    unfold NN
    rw [hm, ← hd, Nat.mul_assoc, ← Nat.pow_add]
  have hab := abs_ex a
  rw [hN] at hab
  obtain ⟨E, hE⟩ : ∃ E : Int, E = takenE (a % signB) + t := ⟨_, rfl⟩
  rw [← hE]
  have hEd : E + 1074 = ((t + d : Nat) : Int) := by omega
  obtain ⟨e, he, hU⟩ := Un_def
  have hopos : 0 < o := by omega
  unfold intR
  by_cases c : E < 0 ∨ 63 < E
  · rw [if_pos c]
    refine fint_none fun n hn => ?_
    obtain ⟨_, hx, hn1, hn2⟩ := fint_back ha hn
    rw [hx, Int.natAbs_mul] at hab
    have hab2 : n.natAbs * 2 ^ e = o * 2 ^ (t + d) := by
      rw [← hab, hU]
      rfl
    rcases c with c | c
    · have hk : e = (t + d) + (e - (t + d) - 1 + 1) := by omega
      rw [hk, Nat.pow_add, Nat.pow_succ] at hab2
      have h3 : n.natAbs * (2 ^ (e - (t + d) - 1) * 2) = o := by
        refine Nat.eq_of_mul_eq_mul_right (show 0 < 2 ^ (t + d) from Nat.pow_pos (by decide)) ?_
        rw [← hab2, Nat.mul_assoc, Nat.mul_comm (2 ^ (t + d))]
      rw [← h3, ← Nat.mul_assoc, Nat.mul_mod_left] at ho
      omega
    · have hk : t + d = (E.toNat - 64 + 64) + e := by omega
      rw [hk, Nat.pow_add, Nat.pow_add, ← Nat.mul_assoc] at hab2
      have h3 : n.natAbs = o * (2 ^ (E.toNat - 64) * 2 ^ 64) := Nat.eq_of_mul_eq_mul_right (Nat.pow_pos (by decide)) hab2
      have h4 : 1 * (1 * 2 ^ 64) ≤ o * (2 ^ (E.toNat - 64) * 2 ^ 64) := Nat.mul_le_mul hopos (Nat.mul_le_mul_right _ (Nat.pow_pos (by decide)))
      have h5 : (1 * (1 * 2 ^ 64) : Nat) = 18446744073709551616 := by decide
      omega
  · rw [if_neg c]
    have hk : t + d = E.toNat + e := by omega
    obtain ⟨v, hv⟩ : ∃ v, v = o * 2 ^ E.toNat := ⟨_, rfl⟩
    have hNv : NN (a % signB) = v * Un := by
      rw [hN, hk, Nat.pow_add, ← Nat.mul_assoc, ← hv, hU]
    rw [← hv]
    have hex := ex_amount a
    rw [hNv] at hex
    have hback : ∀ n : Int, fint a = some n → n = if signB ≤ a then -(v : Int) else (v : Int) := fun n hn => by
      obtain ⟨_, hx, _, _⟩ := fint_back ha hn
      rw [hx] at hex
      by_cases cs : signB ≤ a
      · rw [if_pos cs] at hex ⊢
        refine mulU_eq.1 ?_
        rw [hex, Int.natCast_mul, Int.neg_mul]
      · rw [if_neg cs] at hex ⊢
        refine mulU_eq.1 ?_
        rw [hex, Int.natCast_mul]
    by_cases cs : signB ≤ a
    · rw [if_pos cs] at hex ⊢
      by_cases cv : v ≤ signB
      · rw [if_pos cv]
        refine fint_yes (fint_some ⟨ha, hr⟩ ?_ (by unfold signB at cv; omega) (by omega))
        rw [hex, Int.natCast_mul, Int.neg_mul]
      · rw [if_neg cv]
        refine fint_none fun n hn => ?_
        have h1 := hback n hn
        obtain ⟨_, _, h2, h3⟩ := fint_back ha hn
        rw [if_pos cs] at h1
        unfold signB at cv
        omega
    · rw [if_neg cs] at hex ⊢
      by_cases cv : v < signB
      · rw [if_pos cv]
        refine fint_yes (fint_some ⟨ha, hr⟩ ?_ (by omega) (by unfold signB at cv; omega))
        rw [hex, Int.natCast_mul]
      · rw [if_neg cv]
        refine fint_none fun n hn => ?_
        have h1 := hback n hn
        obtain ⟨_, _, h2, h3⟩ := fint_back ha hn
        rw [if_neg cs] at h1
        unfold signB at cv
        omega
end Go.Proofs.YtjloiclbknfomaaDoor
