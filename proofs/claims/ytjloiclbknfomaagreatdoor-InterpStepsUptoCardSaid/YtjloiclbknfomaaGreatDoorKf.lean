/- More fuel (plain): a machine that ends by itself ends so with more fuel; one that runs out of it has told a beginning. -/
import Derived.Test.YtjloiclbknfomaaGreatDoorKc
set_option maxRecDepth 100000
namespace Go.Proofs.YtjloiclbknfomaaGreatDoor
open Ieee

def Mach.withFuel (m : Mach) (F : Nat) : Mach := { m with fuel := F }
theorem doM_fuel (m : Mach) (x : Ins) (F : Nat) : doM (m.withFuel F) x = ((doM m x).1.withFuel F, (doM m x).2) := by
  unfold doM
  show (if x.op = 1 then _ else _) = _
  by_cases h1 : x.op = 1
  · rw [if_pos h1, if_pos h1]; rfl
  rw [if_neg h1, if_neg h1]
  by_cases h2 : x.op ≤ 13
  · rw [if_pos h2, if_pos h2]; rfl
  rw [if_neg h2, if_neg h2]
  by_cases h3 : x.op = 19
  · rw [if_pos h3, if_pos h3]
    by_cases h : m.nums.length < 8
    · rw [if_pos h, if_pos (show (m.withFuel F).nums.length < 8 from h)]; rfl
    · rw [if_neg h, if_neg (show ¬ (m.withFuel F).nums.length < 8 from h)]
  rw [if_neg h3, if_neg h3]
  by_cases h4 : x.op = 20
  · rw [if_pos h4, if_pos h4]
    by_cases h : 0 < m.nums.length
    · rw [if_pos h, if_pos (show 0 < (m.withFuel F).nums.length from h)]; rfl
    · rw [if_neg h, if_neg (show ¬ 0 < (m.withFuel F).nums.length from h)]
  rw [if_neg h4, if_neg h4]
  by_cases h5 : x.op = 21
  · rw [if_pos h5, if_pos h5]
    by_cases h : m.chunks < 32
    · rw [if_pos h, if_pos (show (m.withFuel F).chunks < 32 from h)]; rfl
    · rw [if_neg h, if_neg (show ¬ (m.withFuel F).chunks < 32 from h)]
  rw [if_neg h5, if_neg h5]
  by_cases h6 : x.op = 22
  · rw [if_pos h6, if_pos h6]
    by_cases h : m.pieces < 16
    · rw [if_pos h, if_pos (show (m.withFuel F).pieces < 16 from h)]; rfl
    · rw [if_neg h, if_neg (show ¬ (m.withFuel F).pieces < 16 from h)]
  rw [if_neg h6, if_neg h6]
  by_cases h7 : x.op = 23
  · rw [if_pos h7, if_pos h7]
  · rw [if_neg h7, if_neg h7]
theorem jumpM_fuel (m : Mach) (x : Ins) (F : Nat) : jumpM (m.withFuel F) x = ((jumpM m x).1.withFuel F, (jumpM m x).2) := by
  unfold jumpM
  by_cases h1 : x.op = 14
  · rw [if_pos h1, if_pos h1]
  rw [if_neg h1, if_neg h1]
  by_cases h2 : x.op = 15
  · rw [if_pos h2, if_pos h2]; rfl
  rw [if_neg h2, if_neg h2]
  by_cases h3 : x.op = 16
  · rw [if_pos h3, if_pos h3]
    by_cases h : (fintR (m.reg x.a)).2 = 0 ∧ 0 ≤ (fintR (m.reg x.a)).1 ∧ (fintR (m.reg x.a)).1 ≤ (m.code.length : Int)
    · rw [if_pos h]; exact if_pos h
    · rw [if_neg h]; exact if_neg h
  rw [if_neg h3, if_neg h3]
  by_cases h4 : x.op = 17
  · rw [if_pos h4, if_pos h4]
    by_cases h : m.places.length < 8
    · rw [if_pos h]; exact if_pos h
    · rw [if_neg h]; exact if_neg h
  rw [if_neg h4, if_neg h4]
  by_cases h5 : x.op = 18
  · rw [if_pos h5, if_pos h5]
    by_cases h : 0 < m.places.length
    · rw [if_pos h]; exact if_pos h
    · rw [if_neg h]; exact if_neg h
  · rw [if_neg h5, if_neg h5]; rfl
/-- the codes that traps have -/
theorem doM_code (m : Mach) (x : Ins) : (doM m x).2.2 ≠ 1 := by
  unfold doM
  repeat' split
  all_goals simp
theorem jumpM_code (m : Mach) (x : Ins) : (jumpM m x).2.2 ≠ 1 := by
  unfold jumpM
  repeat' split
  all_goals simp
/-- a step with more fuel -/
theorem stepM_fuel {m : Mach} {F : Nat} (hF : m.fuel < F) (hd : m.done < m.fuel) (ho : m.over = false) :
    (stepM (m.withFuel F)).2 = (stepM m).2 ∧
      (((stepM m).1.over = true ∧ (stepM m).1.rcode = 1 ∧ (stepM m).1.done = m.fuel ∧ (stepM (m.withFuel F)).1.over = false) ∨
        (¬ ((stepM m).1.over = true ∧ (stepM m).1.rcode = 1) ∧ (stepM (m.withFuel F)).1 = (stepM m).1.withFuel F)) := by
  obtain ⟨x, hx⟩ : ∃ x, m.code.getD m.at_ default = x := ⟨_, rfl⟩
  have hx' : (m.withFuel F).code.getD (m.withFuel F).at_ default = x := hx
  have hd0 : ({ m.withFuel F with done := (m.withFuel F).done + 1 } : Mach) = ({ m with done := m.done + 1 } : Mach).withFuel F := rfl
  have htold : ∀ k, toldM (m.withFuel F) x k = toldM m x k := fun _ => rfl
  unfold stepM
  simp only [hx, hx', hd0, doM_fuel, htold]
  have hc := doM_code ({ m with done := m.done + 1 } : Mach) x
  have hfd : (doM ({ m with done := m.done + 1 } : Mach) x).1.fuel = m.fuel ∧ (doM ({ m with done := m.done + 1 } : Mach) x).1.done = m.done + 1 ∧ (doM ({ m with done := m.done + 1 } : Mach) x).1.over = m.over := by
    unfold doM
    repeat' split
    all_goals exact ⟨rfl, rfl, rfl⟩
  generalize doM ({ m with done := m.done + 1 } : Mach) x = y at hc hfd
  by_cases h1 : y.2.2 ≠ 0
  · rw [if_pos h1, if_pos h1]
    exact ⟨rfl, .inr ⟨fun h => hc h.2, rfl⟩⟩
  · rw [if_neg h1, if_neg h1]
    simp only [jumpM_fuel]
    have hj := jumpM_code y.1 x
    have hfj : (jumpM y.1 x).1.fuel = y.1.fuel ∧ (jumpM y.1 x).1.done = y.1.done ∧ (jumpM y.1 x).1.over = y.1.over := by
      unfold jumpM
      repeat' split
      all_goals exact ⟨rfl, rfl, rfl⟩
    generalize jumpM y.1 x = z at hj hfj
    by_cases h2 : z.2.2 ≠ 0
    · rw [if_pos h2, if_pos h2]
      exact ⟨rfl, .inr ⟨fun h => hj h.2, rfl⟩⟩
    · rw [if_neg h2, if_neg h2]
      refine ⟨rfl, ?_⟩
      show (((nextM { z.1 with at_ := z.2.1 } x).over = true ∧ _) ∨ _)
      have e1 : (z.1.withFuel F).over = false := by show z.1.over = false; rw [hfj.2.2, hfd.2.2, ho]
      unfold nextM
      by_cases h3 : x.op = 24 ∨ z.2.1 = z.1.code.length
      · rw [if_pos (show x.op = 24 ∨ ({ z.1 with at_ := z.2.1 } : Mach).at_ = ({ z.1 with at_ := z.2.1 } : Mach).code.length from h3), if_pos (show x.op = 24 ∨ ({ z.1.withFuel F with at_ := z.2.1 } : Mach).at_ = ({ z.1.withFuel F with at_ := z.2.1 } : Mach).code.length from h3)]
        exact .inr ⟨fun h => by simp [endM] at h, rfl⟩
      · rw [if_neg (show ¬ (x.op = 24 ∨ ({ z.1 with at_ := z.2.1 } : Mach).at_ = ({ z.1 with at_ := z.2.1 } : Mach).code.length) from h3), if_neg (show ¬ (x.op = 24 ∨ ({ z.1.withFuel F with at_ := z.2.1 } : Mach).at_ = ({ z.1.withFuel F with at_ := z.2.1 } : Mach).code.length) from h3)]
        have hz1 : z.1.fuel = m.fuel := hfj.1.trans hfd.1
        have hz2 : z.1.done = m.done + 1 := hfj.2.1.trans hfd.2.1
        have hno : ¬ ({ z.1.withFuel F with at_ := z.2.1 } : Mach).done = ({ z.1.withFuel F with at_ := z.2.1 } : Mach).fuel := by
          show ¬ z.1.done = F
          omega
        rw [if_neg hno]
        by_cases h4 : z.1.done = z.1.fuel
        · rw [if_pos (show ({ z.1 with at_ := z.2.1 } : Mach).done = ({ z.1 with at_ := z.2.1 } : Mach).fuel from h4)]
          exact .inl ⟨rfl, rfl, h4.trans hz1, e1⟩
        · rw [if_neg (show ¬ ({ z.1 with at_ := z.2.1 } : Mach).done = ({ z.1 with at_ := z.2.1 } : Mach).fuel from h4)]
          refine .inr ⟨fun h => ?_, rfl⟩
          have h5 : z.1.over = true := h.1
          rw [hfj.2.2, hfd.2.2, ho] at h5
          cases h5
/-- a row of steps with more fuel -/
theorem runM_fuel {P : Program} (w : World) {F : Nat} : ∀ (k : Nat) {m : Mach}, m.Fit → m.Goes → m.fuel < F → k ≤ m.fuel - m.done →
    (runM k (m.withFuel F)).2 = (runM k m).2 ∧
      (((runM k m).1.over = true ∧ (runM k m).1.rcode = 1 ∧ (m.over = true ∨ (runM k m).1.done = m.fuel) ∧ (m.over = true ∨ (runM k (m.withFuel F)).1.over = false)) ∨
        (¬ ((runM k m).1.over = true ∧ (runM k m).1.rcode = 1) ∧ (runM k (m.withFuel F)).1 = (runM k m).1.withFuel F) ∨ m.over = true)
  | 0, m, _, _, _, _ => by
    by_cases ho : m.over = true
    · exact ⟨rfl, .inr (.inr ho)⟩
    · exact ⟨rfl, .inr (.inl ⟨fun h => ho h.1, rfl⟩)⟩
  | k + 1, m, h, g, hF, hk => by
    by_cases ho : m.over = true
    · rw [runM_over ho, runM_over (show (m.withFuel F).over = true from ho)]
      exact ⟨rfl, .inr (.inr ho)⟩
    · have ho' : m.over = false := by simpa using ho
      obtain ⟨f1, f2, f3, f4, f5⟩ := stepM_fit (P := P) w h g ho'
      obtain ⟨s1, s2⟩ := stepM_fuel hF (g ho').2 ho'
      rw [runM_succ ho', runM_succ (show (m.withFuel F).over = false from ho')]
      have htl : toldOf (stepM (m.withFuel F)) = toldOf (stepM m) := by unfold toldOf; rw [s1]
      rcases s2 with ⟨a1, a2, a3, a4⟩ | ⟨a1, a2⟩
      · have hk0 : k = 0 := by omega
        subst hk0
        refine ⟨by simp [runM, htl], .inl ⟨?_, ?_, .inr ?_, .inr ?_⟩⟩
        · exact a1
        · exact a2
        · exact a3
        · exact a4
      · rw [a2]
        by_cases h1 : (stepM m).1.over = true
        · rw [runM_over h1, runM_over (show ((stepM m).1.withFuel F).over = true from h1)]
          exact ⟨by simp [htl], .inr (.inl ⟨a1, rfl⟩)⟩
        · obtain ⟨r1, r2⟩ := runM_fuel (P := P) w k f1 f2 (by rw [f5]; exact hF) (by rw [f5, f3]; omega)
          refine ⟨by simp only [htl, r1], ?_⟩
          rcases r2 with ⟨b1, b2, b3, b4⟩ | b | b
          · exact .inl ⟨b1, b2, .inr ((b3.resolve_left h1).trans f5), .inr (b4.resolve_left h1)⟩
          · exact .inr (.inl b)
          · exact absurd b h1
/-- done never falls -/
theorem runM_done_le {P : Program} (w : World) : ∀ (k : Nat) {m : Mach}, m.Fit → m.Goes → m.done ≤ (runM k m).1.done
  | 0, m, _, _ => Nat.le_refl _
  | k + 1, m, h, g => by
    by_cases ho : m.over = true
    · rw [runM_over ho]; exact Nat.le_refl _
    · have ho' : m.over = false := by simpa using ho
      obtain ⟨f1, f2, f3, f4, f5⟩ := stepM_fit (P := P) w h g ho'
      rw [runM_succ ho']
      have := runM_done_le (P := P) w k f1 f2
      simp only
      omega
/-- a machine ends within its fuel -/
theorem whole_over {P : Program} (w : World) {fuel : Nat} {l : List Ins} (hc : (progCheck fuel l).1 = 0) (hk : ∀ x ∈ l, x.k < 2 * signB) : (wholeM fuel l).1.over = true := by
  have h := fit_new hc hk
  have g := goes_new hc
  unfold wholeM
  cases ho : (runM fuel (newM fuel l)).1.over with
  | true => rfl
  | false =>
    obtain ⟨r1, r2, r3, r4⟩ := runM_fit (P := P) w fuel h g
    have hall : ∀ j, j < fuel → (runM j (newM fuel l)).1.over = false := fun j hj => by
      cases hj' : (runM j (newM fuel l)).1.over with
      | false => rfl
      | true =>
        rw [runM_stop hj' (Nat.le_of_lt hj), hj'] at ho
        cases ho
    have hd := runM_done (P := P) w fuel h g hall
    have := (r2 ho).2
    rw [r4, hd] at this
    simp [newM] at this
/-- THE LAW -/
theorem fuel_law {P : Program} (w : World) {f more : Nat} {l : List Ins} (hc : (progCheck f l).1 = 0) (hk : ∀ x ∈ l, x.k < 2 * signB) (h1 : 1 ≤ more) (hc2 : (progCheck ((f + more : Nat) : Int) l).1 = 0) :
    ((wholeM f l).1.rcode ≠ 1 → (wholeM (f + more) l).1.rcode = (wholeM f l).1.rcode ∧ (wholeM (f + more) l).1.rbits = (wholeM f l).1.rbits ∧ (wholeM (f + more) l).1.done = (wholeM f l).1.done ∧ (wholeM (f + more) l).2 = (wholeM f l).2) ∧
      ((wholeM f l).1.rcode = 1 → (wholeM f l).1.done = f ∧ f < (wholeM (f + more) l).1.done ∧ ∃ r, (wholeM (f + more) l).2 = (wholeM f l).2 ++ r) := by
  have hfit := fit_new hc hk
  have hgo := goes_new hc
  have hov := whole_over (P := P) w hc hk
  have hn : newM (f + more) l = (newM f l).withFuel (f + more) := rfl
  obtain ⟨r1, r2⟩ := runM_fuel (P := P) w (F := f + more) f hfit hgo (by show f < f + more; omega) (by show f ≤ f - 0; omega)
  unfold wholeM at *
  rw [hn, runM_add f more]
  constructor
  · intro hne
    rcases r2 with ⟨b1, b2, _, _⟩ | ⟨_, b⟩ | b
    · exact absurd b2 hne
    · rw [b, r1]
      rw [runM_over (show ((runM f (newM f l)).1.withFuel (f + more)).over = true from hov)]
      exact ⟨rfl, rfl, rfl, by simp⟩
    · simp [newM] at b
  · intro he
    rcases r2 with ⟨b1, b2, b3, b4⟩ | ⟨b, _⟩ | b
    · have b3' := b3.resolve_left (by simp [newM])
      have b4' := b4.resolve_left (by simp [newM])
      refine ⟨b3', ?_, _, by rw [r1]⟩
      obtain ⟨c1, c2, c3, c4⟩ := runM_fit (P := P) w f (fit_new hc2 hk) (goes_new hc2)
      rw [hn] at c1 c2 c3 c4
      have hd2 : (runM f ((newM f l).withFuel (f + more))).1.done = f := by
        have hall : ∀ j, j < f → (runM j ((newM f l).withFuel (f + more))).1.over = false := fun j hj => by
          cases hj' : (runM j ((newM f l).withFuel (f + more))).1.over with
          | false => rfl
          | true =>
            rw [runM_stop hj' (Nat.le_of_lt hj), hj'] at b4'
            cases b4'
        have := runM_done (P := P) w f (hn ▸ fit_new hc2 hk) (hn ▸ goes_new hc2) hall
        rw [this]
        show 0 + f = f
        omega
      obtain ⟨q, rfl⟩ : ∃ q, more = q + 1 := ⟨more - 1, by omega⟩
      rw [runM_succ b4']
      obtain ⟨e1, e2, e3, _, _⟩ := stepM_fit (P := P) w c1 c2 b4'
      have := runM_done_le (P := P) w q e1 e2
      simp only
      omega
    · exact absurd ⟨hov, he⟩ b
    · simp [newM] at b
end Go.Proofs.YtjloiclbknfomaaGreatDoor
