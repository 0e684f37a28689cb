/- What a machine tells and how far it goes (plain): texts of 32 bytes at most, as many chunks and pieces as it counts. -/
import Derived.Test.YtjloiclbknfomaaGreatDoorKf
import Derived.Test.YtjloiclbknfomaaGreatDoorKy
set_option maxRecDepth 100000
namespace Go.Proofs.YtjloiclbknfomaaGreatDoor
open Ieee

theorem nDigits_le : ∀ (k u : Nat), u < 10 ^ (k + 1) → Lib.nDigits u ≤ k + 1
  | 0, u, h => by rw [Lib.nDigits_small (by simpa using h)]; exact Nat.le_refl _
  | k + 1, u, h => by
    by_cases h1 : u < 10
    · rw [Lib.nDigits_small h1]; omega
    · rw [Lib.nDigits_big h1]
      have := nDigits_le k (u / 10) (by rw [Nat.pow_succ] at h; omega)
      omega
theorem itoa_len6 {n : Int} (h1 : -100000 < n) (h2 : n < 100000) : (Lib.itoa n).length ≤ 6 := by
  unfold Lib.itoa
  split
  · have := nDigits_le 4 n.natAbs (by omega)
    rw [List.length_cons, Lib.decDigits_length]
    omega
  · have := nDigits_le 4 n.toNat (by omega)
    rw [Lib.decDigits_length]
    omega
theorem ftext_len (a : Nat) : (ftext a).length ≤ 32 := by
  unfold ftext
  by_cases hn : isN a = true
  · rw [if_pos hn]; decide
  · rw [if_neg hn]
    have hs : (if signB ≤ a then [45] else ([] : List UInt8)).length ≤ 1 := by split <;> decide
    have ht : (if a % signB = infB then [105, 110, 102] else if a % signB = 0 then [48] else Lib.decDigits (oddM (a % signB)) ++ 112 :: Lib.itoa (oddE (a % signB)) : List UInt8).length ≤ 31 := by
      by_cases h1 : a % signB = infB
      · rw [if_pos h1]; decide
      rw [if_neg h1]
      by_cases h2 : a % signB = 0
      · rw [if_pos h2]; decide
      rw [if_neg h2]
      have hlt : a % signB < infB := by
        unfold isN at hn
        simp only [decide_eq_true_eq] at hn
        omega
      obtain ⟨q1, q2, q3⟩ := odd_split h2
      have hm : oddM (a % signB) ≤ takenM (a % signB) := by unfold oddM; exact Nat.div_le_self _ _
      have hm2 : takenM (a % signB) < 9007199254740992 := taken_lt
      have he1 := takenE_ge (a % signB)
      have he2 := takenE_le hlt
      have hd := nDigits_le 15 (oddM (a % signB)) (by omega)
      have hi := itoa_len6 (n := oddE (a % signB)) (by unfold oddE; omega) (by unfold oddE; omega)
      rw [List.length_append, List.length_cons, Lib.decDigits_length]
      omega
    rw [List.length_append]
    omega

/-- what a step tells -/
theorem stepM_told (m : Mach) : ((stepM m).2.1 = 0 ∧ (stepM m).1.chunks = m.chunks ∧ (stepM m).1.pieces = m.pieces ∨ (stepM m).2.1 = 1 ∧ (stepM m).1.chunks = m.chunks + 1 ∧ (stepM m).1.pieces = m.pieces ∨ (stepM m).2.1 = 2 ∧ (stepM m).1.chunks = m.chunks ∧ (stepM m).1.pieces = m.pieces + 1) ∧ (stepM m).2.2.length ≤ 32 := by
  obtain ⟨x, hx⟩ : ∃ x, m.code.getD m.at_ default = x := ⟨_, rfl⟩
  have hd : ∀ m0 : Mach, m0.chunks = m.chunks → m0.pieces = m.pieces → (doM m0 x).2.2 ≠ 0 ∧ (doM m0 x).1.chunks = m.chunks ∧ (doM m0 x).1.pieces = m.pieces ∨ (doM m0 x).2.2 = 0 ∧
      ((doM m0 x).2.1 = 0 ∧ (doM m0 x).1.chunks = m.chunks ∧ (doM m0 x).1.pieces = m.pieces ∨ ((14 ≤ x.op → 18 < x.op) ∧ ((doM m0 x).2.1 = 1 ∧ (doM m0 x).1.chunks = m.chunks + 1 ∧ (doM m0 x).1.pieces = m.pieces ∨ (doM m0 x).2.1 = 2 ∧ (doM m0 x).1.chunks = m.chunks ∧ (doM m0 x).1.pieces = m.pieces + 1))) := by
    intro m0 hc hp
    unfold doM
    repeat' split
    all_goals first
      | exact .inr ⟨rfl, .inl ⟨rfl, hc, hp⟩⟩
      | exact .inl ⟨by simp, hc, hp⟩
      | exact .inr ⟨rfl, .inr ⟨by omega, .inl ⟨rfl, congrArg (· + 1) hc, hp⟩⟩⟩
      | exact .inr ⟨rfl, .inr ⟨by omega, .inr ⟨rfl, hc, congrArg (· + 1) hp⟩⟩⟩
  have hj : ∀ m1 : Mach, (jumpM m1 x).1.chunks = m1.chunks ∧ (jumpM m1 x).1.pieces = m1.pieces := by
    intro m1
    unfold jumpM
    repeat' split
    all_goals exact ⟨rfl, rfl⟩
  have hj2 : ∀ m1 : Mach, (14 ≤ x.op → 18 < x.op) → (jumpM m1 x).2.2 = 0 := by
    intro m1 h
    unfold jumpM
    rw [if_neg (by omega), if_neg (by omega), if_neg (by omega), if_neg (by omega), if_neg (by omega)]
  have hn : ∀ m1 : Mach, (nextM m1 x).chunks = m1.chunks ∧ (nextM m1 x).pieces = m1.pieces := by
    intro m1
    unfold nextM
    repeat' split
    all_goals exact ⟨rfl, rfl⟩
  have ht : ∀ k, (toldM m x k).length ≤ 32 := by
    intro k
    unfold toldM
    split
    · decide
    · exact ftext_len _
  unfold stepM
  simp only [hx]
  have h := hd ({ m with done := m.done + 1 } : Mach) rfl rfl
  generalize doM ({ m with done := m.done + 1 } : Mach) x = y at h
  by_cases h1 : y.2.2 ≠ 0
  · rw [if_pos h1]
    rcases h with h | h
    · exact ⟨.inl ⟨rfl, h.2.1, h.2.2⟩, Nat.zero_le _⟩
    · exact absurd h.1 h1
  · rw [if_neg h1]
    rcases h with h | h
    · exact absurd h.1 h1
    obtain ⟨j1, j2⟩ := hj y.1
    have j3 := hj2 y.1
    generalize jumpM y.1 x = z at j1 j2 j3
    by_cases h2 : z.2.2 ≠ 0
    · rw [if_pos h2]
      refine ⟨.inl ⟨rfl, ?_⟩, Nat.zero_le _⟩
      show z.1.chunks = _ ∧ z.1.pieces = _
      rcases h.2 with h | h
      · exact ⟨j1.trans h.2.1, j2.trans h.2.2⟩
      · exact absurd (j3 h.1) h2
    · rw [if_neg h2]
      obtain ⟨n1, n2⟩ := hn ({ z.1 with at_ := z.2.1 } : Mach)
      have n1' : (nextM ({ z.1 with at_ := z.2.1 } : Mach) x).chunks = y.1.chunks := n1.trans j1
      have n2' : (nextM ({ z.1 with at_ := z.2.1 } : Mach) x).pieces = y.1.pieces := n2.trans j2
      refine ⟨?_, ht _⟩
      simp only [n1', n2']
      rcases h.2 with h | ⟨_, h | h⟩
      · exact .inl h
      · exact .inr (.inl h)
      · exact .inr (.inr h)
theorem toldOf_one {s : Mach × Int × List UInt8} (h : s.2.1 ≠ 0) : toldOf s = [s.2] := by
  unfold toldOf
  rw [if_neg h]
theorem run_counts : ∀ (k : Nat) (m : Mach), (chunksOf (runM k m).2).length + m.chunks = (runM k m).1.chunks ∧ (piecesOf (runM k m).2).length + m.pieces = (runM k m).1.pieces ∧ ∀ a ∈ (runM k m).2, a.2.length ≤ 32
  | 0, m => by simp [runM, chunksOf, piecesOf]
  | k + 1, m => by
    by_cases ho : m.over = true
    · rw [runM_over ho]; simp [chunksOf, piecesOf]
    · have ho' : m.over = false := by simpa using ho
      rw [runM_succ ho']
      obtain ⟨h1, h2, h3⟩ := run_counts k (stepM m).1
      obtain ⟨t1, t2⟩ := stepM_told m
      have hca : ∀ a b : List (Int × List UInt8), (chunksOf (a ++ b)).length = (chunksOf a).length + (chunksOf b).length ∧ (piecesOf (a ++ b)).length = (piecesOf a).length + (piecesOf b).length := fun a b => by simp [chunksOf, piecesOf]
      simp only [hca]
      have hfin : ∀ a ∈ toldOf (stepM m) ++ (runM k (stepM m).1).2, a.2.length ≤ 32 := by
        intro a ha
        rcases List.mem_append.1 ha with ha | ha
        · unfold toldOf at ha
          split at ha
          · cases ha
          · simp at ha
            rw [ha]
            exact t2
        · exact h3 a ha
      rcases t1 with ⟨e, c, p⟩ | ⟨e, c, p⟩ | ⟨e, c, p⟩
      · have : toldOf (stepM m) = [] := by unfold toldOf; rw [if_pos e]
        refine ⟨?_, ?_, hfin⟩
        · rw [this]; simp [chunksOf] at h1 ⊢; omega
        · rw [this]; simp [piecesOf] at h2 ⊢; omega
      · have h := toldOf_one (s := stepM m) (by rw [e]; decide)
        have hc1 : (chunksOf (toldOf (stepM m))).length = 1 := by rw [h]; simp [chunksOf, e]
        have hp1 : (piecesOf (toldOf (stepM m))).length = 0 := by rw [h]; simp [piecesOf, e]
        exact ⟨by omega, by omega, hfin⟩
      · have h := toldOf_one (s := stepM m) (by rw [e]; decide)
        have hc1 : (chunksOf (toldOf (stepM m))).length = 0 := by rw [h]; simp [chunksOf, e]
        have hp1 : (piecesOf (toldOf (stepM m))).length = 1 := by rw [h]; simp [piecesOf, e]
        exact ⟨by omega, by omega, hfin⟩
/-- done rises by the steps at most, and by one at least -/
theorem run_done_add {P : Program} (w : World) : ∀ (k : Nat) {m : Mach}, m.Fit → m.Goes → (runM k m).1.done ≤ m.done + k
  | 0, m, _, _ => Nat.le_refl _
  | k + 1, m, h, g => by
    by_cases ho : m.over = true
    · rw [runM_over ho]; simp only; omega
    · have ho' : m.over = false := by simpa using ho
      obtain ⟨f1, f2, f3, f4, f5⟩ := stepM_fit (P := P) w h g ho'
      rw [runM_succ ho']
      have := run_done_add (P := P) w k f1 f2
      simp only
      omega
theorem run_done_one {P : Program} (w : World) {k : Nat} {m : Mach} (h : m.Fit) (g : m.Goes) (ho : m.over = false) (hk : 1 ≤ k) : m.done < (runM k m).1.done := by
  obtain ⟨q, rfl⟩ : ∃ q, k = q + 1 := ⟨k - 1, by omega⟩
  obtain ⟨f1, f2, f3, f4, f5⟩ := stepM_fit (P := P) w h g ho
  rw [runM_succ ho]
  have := runM_done_le (P := P) w q f1 f2
  simp only
  omega
/-- a machine that is over has done what the whole does -/
theorem run_whole {P : Program} (w : World) {f : Nat} {l : List Ins} (hc : (progCheck f l).1 = 0) (hk : ∀ x ∈ l, x.k < 2 * signB) {n : Nat} (ho : (runM n (newM f l)).1.over = true) : runM n (newM f l) = wholeM f l := by
  unfold wholeM
  rcases Nat.le_total n f with h | h
  · exact (runM_stop ho h).symm
  · exact runM_stop (show (runM f (newM f l)).1.over = true from whole_over (P := P) w hc hk) h
end Go.Proofs.YtjloiclbknfomaaGreatDoor
