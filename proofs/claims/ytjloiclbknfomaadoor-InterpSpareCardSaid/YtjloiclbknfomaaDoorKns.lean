/- What is never done makes no difference (plain). -/
import Derived.Test.YtjloiclbknfomaaDoorKf
set_option maxRecDepth 100000
namespace Go.Proofs.YtjloiclbknfomaaDoor
open Ieee

def Mach.withCode (m : Mach) (c : List Ins) : Mach := { m with code := c }
theorem doM_code' (m : Mach) (x : Ins) (c : List Ins) : doM (m.withCode c) x = ((doM m x).1.withCode c, (doM m x).2) := by
  unfold doM
  by_cases h1 : x.op = 1
  · rw [if_pos h1, if_pos h1]; rfl
  rw [if_neg h1, if_neg h1]
  by_cases h2 : x.op ≤ 13
  · rw [if_pos h2, if_pos h2]; rfl
  rw [if_neg h2, if_neg h2]
  by_cases h3 : x.op = 19
  · rw [if_pos h3, if_pos h3]
    by_cases h : m.nums.length < 8
    · rw [if_pos h, if_pos (show (m.withCode c).nums.length < 8 from h)]; rfl
    · rw [if_neg h, if_neg (show ¬ (m.withCode c).nums.length < 8 from h)]
  rw [if_neg h3, if_neg h3]
  by_cases h4 : x.op = 20
  · rw [if_pos h4, if_pos h4]
    by_cases h : 0 < m.nums.length
    · rw [if_pos h, if_pos (show 0 < (m.withCode c).nums.length from h)]; rfl
    · rw [if_neg h, if_neg (show ¬ 0 < (m.withCode c).nums.length from h)]
  rw [if_neg h4, if_neg h4]
  by_cases h5 : x.op = 21
  · rw [if_pos h5, if_pos h5]
    by_cases h : m.chunks < 32
    · rw [if_pos h, if_pos (show (m.withCode c).chunks < 32 from h)]; rfl
    · rw [if_neg h, if_neg (show ¬ (m.withCode c).chunks < 32 from h)]
  rw [if_neg h5, if_neg h5]
  by_cases h6 : x.op = 22
  · rw [if_pos h6, if_pos h6]
    by_cases h : m.pieces < 16
    · rw [if_pos h, if_pos (show (m.withCode c).pieces < 16 from h)]; rfl
    · rw [if_neg h, if_neg (show ¬ (m.withCode c).pieces < 16 from h)]
  rw [if_neg h6, if_neg h6]
  by_cases h7 : x.op = 23
  · rw [if_pos h7, if_pos h7]
  · rw [if_neg h7, if_neg h7]
theorem jumpM_code' (m : Mach) (x : Ins) {c : List Ins} (hc : c.length = m.code.length) : jumpM (m.withCode c) x = ((jumpM m x).1.withCode c, (jumpM m x).2) := by
  unfold jumpM
  by_cases h1 : x.op = 14
  · rw [if_pos h1, if_pos h1]
  rw [if_neg h1, if_neg h1]
  by_cases h2 : x.op = 15
  · rw [if_pos h2, if_pos h2]; rfl
  rw [if_neg h2, if_neg h2]
  by_cases h3 : x.op = 16
  · rw [if_pos h3, if_pos h3]
    by_cases h : (fintR (m.reg x.a)).2 = 0 ∧ 0 ≤ (fintR (m.reg x.a)).1 ∧ (fintR (m.reg x.a)).1 ≤ (m.code.length : Int)
    · rw [if_pos h]; exact if_pos (by rw [← hc] at h; exact h)
    · rw [if_neg h]; exact if_neg (by rw [← hc] at h; exact h)
  rw [if_neg h3, if_neg h3]
  by_cases h4 : x.op = 17
  · rw [if_pos h4, if_pos h4]
    by_cases h : m.places.length < 8
    · rw [if_pos h]; exact if_pos h
    · rw [if_neg h]; exact if_neg h
  rw [if_neg h4, if_neg h4]
  by_cases h5 : x.op = 18
  · rw [if_pos h5, if_pos h5]
    by_cases h : 0 < m.places.length
    · rw [if_pos h]; exact if_pos h
    · rw [if_neg h]; exact if_neg h
  · rw [if_neg h5, if_neg h5]; rfl
theorem nextM_code' (m : Mach) (x : Ins) {c : List Ins} (hc : c.length = m.code.length) : nextM (m.withCode c) x = (nextM m x).withCode c := by
  unfold nextM
  by_cases h1 : x.op = 24 ∨ m.at_ = m.code.length
  · rw [if_pos h1]; exact if_pos (by rw [← hc] at h1; exact h1)
  · rw [if_neg h1, if_neg (show ¬ (x.op = 24 ∨ (m.withCode c).at_ = (m.withCode c).code.length) by rw [← hc] at h1; exact h1)]
    by_cases h2 : m.done = m.fuel
    · rw [if_pos h2]; exact if_pos h2
    · rw [if_neg h2]; exact if_neg h2
theorem stepM_code {m : Mach} {c : List Ins} (hc : c.length = m.code.length) (hx : c.getD m.at_ default = m.code.getD m.at_ default) (hd : (doM { m with done := m.done + 1 } (m.code.getD m.at_ default)).1.code = m.code) (hj : (jumpM (doM { m with done := m.done + 1 } (m.code.getD m.at_ default)).1 (m.code.getD m.at_ default)).1.code = m.code) : stepM (m.withCode c) = ((stepM m).1.withCode c, (stepM m).2) := by
  have hx' : (m.withCode c).code.getD (m.withCode c).at_ default = m.code.getD m.at_ default := hx
  have hd0 : ({ m.withCode c with done := (m.withCode c).done + 1 } : Mach) = ({ m with done := m.done + 1 } : Mach).withCode c := rfl
  have htold : ∀ x k, toldM (m.withCode c) x k = toldM m x k := fun _ _ => rfl
  unfold stepM
  simp only [hx', hd0, doM_code', htold]
  generalize m.code.getD m.at_ default = x at *
  generalize doM ({ m with done := m.done + 1 } : Mach) x = y at hd hj ⊢
  by_cases h1 : y.2.2 ≠ 0
  · rw [if_pos h1, if_pos h1]; rfl
  · rw [if_neg h1, if_neg h1]
    rw [jumpM_code' y.1 x (hc.trans (congrArg List.length hd).symm)]
    generalize jumpM y.1 x = z at hj ⊢
    by_cases h2 : z.2.2 ≠ 0
    · rw [if_pos h2, if_pos h2]; rfl
    · rw [if_neg h2, if_neg h2]
      simp only
      have := nextM_code' ({ z.1 with at_ := z.2.1 } : Mach) x (c := c) (hc.trans (congrArg List.length hj).symm)
      exact congrArg (fun a => (a, y.2.1, toldM m x y.2.1)) this
theorem runM_code {P : Program} (w : World) {c : List Ins} : ∀ (k : Nat) {m : Mach}, m.Fit → m.Goes → c.length = m.code.length → (∀ j, j < k → (runM j m).1.over = false → c.getD (runM j m).1.at_ default = m.code.getD (runM j m).1.at_ default) →
    runM k (m.withCode c) = ((runM k m).1.withCode c, (runM k m).2)
  | 0, m, _, _, _, _ => rfl
  | k + 1, m, h, g, hc, hag => by
    by_cases ho : m.over = true
    · rw [runM_over ho, runM_over (show (m.withCode c).over = true from ho)]
    · have ho' : m.over = false := by simpa using ho
      obtain ⟨f1, f2, f3, f4, f5⟩ := stepM_fit (P := P) w h g ho'
      obtain ⟨g1, g2⟩ := g ho'
      obtain ⟨_, hx, hkx⟩ := code_get h g1
      have h0 : ({ m with done := m.done + 1 } : Mach).Fit := ⟨h.fuel, h.len, h.code, h.at_, g2, h.rlen, h.regs, h.nlen, h.nums, h.plen, h.places, h.chunks, h.pieces⟩
      obtain ⟨d1, d2, d3, d4, d5, d6⟩ := doM_fit (P := P) w h0 (x := m.code.getD m.at_ default) hx hkx
      have dc : (doM { m with done := m.done + 1 } (m.code.getD m.at_ default)).1.code = m.code := d2
      have da : (doM { m with done := m.done + 1 } (m.code.getD m.at_ default)).1.at_ = m.at_ := d5
      obtain ⟨_, j2, _⟩ := jumpM_fit d1 (x := m.code.getD m.at_ default) (by rw [da, dc]; exact g1) (by rw [dc]; exact hx)
      have hs := stepM_code hc (hag 0 (by omega) ho') dc (j2.trans dc)
      rw [runM_succ ho', runM_succ (show (m.withCode c).over = false from ho'), hs]
      have ih := runM_code (P := P) w (c := c) k f1 f2 (hc.trans (congrArg List.length f4).symm) (fun j hj hov => by
        have := hag (j + 1) (by omega)
        rw [runM_succ ho'] at this
        rw [f4]
        exact this hov)
      rw [ih]
      rfl
/-- the places at which the first so many steps were done -/
def doneTo (f : Nat) (l : List Ins) : Nat → List Bool
  | 0 => List.replicate 64 false
  | i + 1 => (doneTo f l i).set (runM i (newM f l)).1.at_ true
theorem doneTo_len (f : Nat) (l : List Ins) : ∀ n, (doneTo f l n).length = 64
  | 0 => by simp [doneTo]
  | n + 1 => by simp [doneTo, doneTo_len f l n]
theorem doneTo_hit (f : Nat) (l : List Ins) {j : Nat} (hj : (runM j (newM f l)).1.at_ < 64) : ∀ n, j < n → (doneTo f l n).getD (runM j (newM f l)).1.at_ false = true
  | 0, h => by omega
  | n + 1, h => by
    unfold doneTo
    have hl := doneTo_len f l n
    rw [List.getD_eq_getElem?_getD, List.getElem?_set]
    by_cases e : (runM n (newM f l)).1.at_ = (runM j (newM f l)).1.at_
    · rw [if_pos e, if_pos (by omega)]; rfl
    · rw [if_neg e, ← List.getD_eq_getElem?_getD]
      have hne : j ≠ n := fun e' => e (by rw [e'])
      exact doneTo_hit f l hj n (by omega)
/-- the other program's first so many instructions -/
def spareTo (l more : List Ins) (D : List Bool) : Nat → List Ins
  | 0 => []
  | i + 1 => spareTo l more D i ++ [if D.getD i false = false ∧ i < more.length then more.getD i default else l.getD i default]
theorem spareTo_len (l more : List Ins) (D : List Bool) : ∀ n, (spareTo l more D n).length = n
  | 0 => rfl
  | n + 1 => by simp [spareTo, spareTo_len l more D n]
theorem spareTo_at (l more : List Ins) (D : List Bool) {j : Nat} (h : D.getD j false = true) : ∀ n, j < n → (spareTo l more D n).getD j default = l.getD j default
  | 0, hn => by omega
  | n + 1, hn => by
    unfold spareTo
    have hl := spareTo_len l more D n
    by_cases e : j = n
    · subst e
      rw [List.getD_eq_getElem?_getD, List.getElem?_append_right (by omega), hl, Nat.sub_self, if_neg (by rw [h]; simp)]
      rfl
    · rw [List.getD_eq_getElem?_getD, List.getElem?_append_left (by omega), ← List.getD_eq_getElem?_getD]
      exact spareTo_at l more D h n (by omega)
theorem spareTo_k {l more : List Ins} {D : List Bool} (hl : ∀ x ∈ l, x.k < 2 * signB) (hm : ∀ x ∈ more, x.k < 2 * signB) : ∀ n, n ≤ l.length → ∀ x ∈ spareTo l more D n, x.k < 2 * signB
  | 0, _, x, hx => by cases hx
  | n + 1, hn, x, hx => by
    unfold spareTo at hx
    rcases List.mem_append.1 hx with hx | hx
    · exact spareTo_k hl hm n (by omega) x hx
    · simp only [List.mem_singleton] at hx
      subst hx
      split
      · rename_i h
        rw [List.getD_eq_getElem?_getD, List.getElem?_eq_getElem h.2]
        exact hm _ (List.getElem_mem _)
      · rw [List.getD_eq_getElem?_getD, List.getElem?_eq_getElem (show n < l.length by omega)]
        exact hl _ (List.getElem_mem _)
/-- THE LAW -/
theorem spare_law {P : Program} (w : World) {f : Nat} {l : List Ins} (hc : (progCheck f l).1 = 0) (hk : ∀ x ∈ l, x.k < 2 * signB) (more : List Ins) {n : Nat} (hn : n = f ∨ (runM n (newM f l)).1.over = true) :
    wholeM f (spareTo l more (doneTo f l n) l.length) = ((wholeM f l).1.withCode (spareTo l more (doneTo f l n) l.length), (wholeM f l).2) := by
  unfold wholeM
  refine runM_code (P := P) w f (m := newM f l) (fit_new hc hk) (goes_new hc) (spareTo_len l more _ _) (fun j hj hov => ?_)
  have hjn : j < n := by
    rcases hn with rfl | h
    · exact hj
    · rcases Nat.lt_or_ge j n with h1 | h1
      · exact h1
      · rw [runM_stop h h1, h] at hov
        cases hov
  obtain ⟨r1, r2, r3, _⟩ := runM_fit (P := P) w j (fit_new hc hk) (goes_new hc)
  have hlt := (r2 hov).1
  rw [r3] at hlt
  have hlt' : (runM j (newM f l)).1.at_ < l.length := hlt
  have h64 := (progCheck_ok hc).2.1.2
  exact spareTo_at l more _ (doneTo_hit f l (by omega) n hjn) l.length hlt'
end Go.Proofs.YtjloiclbknfomaaDoor
