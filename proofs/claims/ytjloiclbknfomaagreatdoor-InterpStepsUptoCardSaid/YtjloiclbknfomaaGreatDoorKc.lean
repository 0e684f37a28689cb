/- The plain machine: its registers hold one NaN alone, it goes on as it should, so many steps in rows, more fuel. -/
import Derived.Test.YtjloiclbknfomaaGreatDoorKa
import Derived.Test.YtjloiclbknfomaaGreatDoorFl
set_option maxRecDepth 100000
namespace Go.Proofs.YtjloiclbknfomaaGreatDoor
open Ieee

theorem can_can (a : Nat) : fcan (fcan a) = fcan a := by
  unfold fcan
  by_cases h : isN a = true
  · rw [if_pos h]
    rfl
  · rw [if_neg h, if_neg h]
theorem Can.of {v r : Nat} (hv : v < 2 * signB) (h : fcan v = r) : Can r := by
  subst h
  exact ⟨can_lt hv, can_can v⟩
theorem can_nan : Can nanB := ⟨nanB_lt, rfl⟩
theorem reckon_can {P : Program} (w : World) {op : Int} {b c : Nat} (h13 : op ≤ 13) (hb : Can b) (hc : Can c) : Can (reckonM op b c) := by
  have hof : ∀ n : Int, Can (fof n) := fun n => by
    refine ⟨?_, fcan_plain (fof_no n)⟩
    unfold fof
    obtain ⟨h1, h2⟩ := nearest_is (decide (n < 0)) n.natAbs 0
    rw [h1]
    exact word_lt2 _ (by unfold infB at h2; unfold signB; omega)
  unfold reckonM
  split
  · exact ⟨can_lt hb.1, can_can b⟩
  split
  · exact fadd_lt b c
  split
  · exact fsub_lt b c
  split
  · exact fmul_lt b c
  split
  · exact fdiv_lt b c
  split
  · unfold fmin
    split
    · exact can_nan
    · split
      · exact hb
      · exact hc
      · split
        · exact hb
        · exact hc
  split
  · unfold fmax
    split
    · exact can_nan
    · split
      · exact hc
      · exact hb
      · split
        · exact hc
        · exact hb
  split
  · split
    · exact hof 1
    · exact can_zero
  split
  · exact hof _
  split
  · unfold fneg
    split
    · exact can_nan
    · rename_i h
      exact ⟨(by have h := hb.1; unfold flipW signB at *; split <;> omega), fcan_plain (by rw [isN_flip hb.1]; simpa using h)⟩
  split
  · exact Can.of (v := b % signB) (by have := Nat.mod_lt b (show 0 < signB by decide); omega) (abs_is b)
  · obtain ⟨v, n, h1, h2, _⟩ := floor_run (P := P) w hb.1
    exact Can.of h1 h2

theorem Mach.Fit.reg_can {m : Mach} (h : m.Fit) {i : Int} (h0 : 0 ≤ i) (h1 : i < 8) : Can (m.reg i) := by
  unfold Mach.reg
  have hl := h.rlen
  rw [List.getD_eq_getElem?_getD, List.getElem?_eq_getElem (by omega)]
  exact h.regs _ (List.getElem_mem _)
theorem set_can {l : List Nat} (h : ∀ r ∈ l, Can r) {v : Nat} (hv : Can v) (i : Nat) : ∀ r ∈ l.set i v, Can r := fun r hr => by
  rcases List.mem_or_eq_of_mem_set hr with hr | hr
  · exact h r hr
  · exact hr ▸ hv

/-- what Fit needs of a machine behind the first half -/
theorem doM_fit {P : Program} (w : World) {m : Mach} (h : m.Fit) {x : Ins} (hx : x.Ok m.code.length) (hk : x.k < 2 * signB) : (doM m x).1.Fit ∧ (doM m x).1.code = m.code ∧ (doM m x).1.fuel = m.fuel ∧ (doM m x).1.done = m.done ∧ (doM m x).1.at_ = m.at_ ∧ (doM m x).1.over = m.over := by
  unfold doM
  split
  · exact ⟨⟨h.fuel, h.len, h.code, h.at_, h.done, by simpa using h.rlen, set_can h.regs ⟨hk, hx.k⟩ _, h.nlen, h.nums, h.plen, h.places, h.chunks, h.pieces⟩, rfl, rfl, rfl, rfl, rfl⟩
  split
  · rename_i h1 h2
    exact ⟨⟨h.fuel, h.len, h.code, h.at_, h.done, by simpa using h.rlen, set_can h.regs (reckon_can (P := P) w h2 (h.reg_can hx.b.1 hx.b.2) (h.reg_can hx.c.1 hx.c.2)) _, h.nlen, h.nums, h.plen, h.places, h.chunks, h.pieces⟩, rfl, rfl, rfl, rfl, rfl⟩
  split
  · split
    · rename_i h3
      refine ⟨⟨h.fuel, h.len, h.code, h.at_, h.done, h.rlen, h.regs, ?_, ?_, h.plen, h.places, h.chunks, h.pieces⟩, rfl, rfl, rfl, rfl, rfl⟩
      · simp; omega
      · intro r hr
        rcases List.mem_append.1 hr with hr | hr
        · exact h.nums r hr
        · simp at hr
          exact hr ▸ h.reg_can hx.a.1 hx.a.2
    · exact ⟨h, rfl, rfl, rfl, rfl, rfl⟩
  split
  · split
    · rename_i h3
      have hne : m.nums ≠ [] := fun e => by rw [e] at h3; simp at h3
      refine ⟨⟨h.fuel, h.len, h.code, h.at_, h.done, by simpa using h.rlen, set_can h.regs ?_ _, ?_, fun r hr => h.nums r (List.dropLast_subset _ hr), h.plen, h.places, h.chunks, h.pieces⟩, rfl, rfl, rfl, rfl, rfl⟩
      · rw [List.getLastD_eq_getLast?, List.getLast?_eq_some_getLast hne]
        exact h.nums _ (List.getLast_mem hne)
      · have := h.nlen
        simp
        omega
    · exact ⟨h, rfl, rfl, rfl, rfl, rfl⟩
  split
  · split
    · rename_i h3
      exact ⟨⟨h.fuel, h.len, h.code, h.at_, h.done, h.rlen, h.regs, h.nlen, h.nums, h.plen, h.places, h3, h.pieces⟩, rfl, rfl, rfl, rfl, rfl⟩
    · exact ⟨h, rfl, rfl, rfl, rfl, rfl⟩
  split
  · split
    · rename_i h3
      exact ⟨⟨h.fuel, h.len, h.code, h.at_, h.done, h.rlen, h.regs, h.nlen, h.nums, h.plen, h.places, h.chunks, h3⟩, rfl, rfl, rfl, rfl, rfl⟩
    · exact ⟨h, rfl, rfl, rfl, rfl, rfl⟩
  split
  · exact ⟨h, rfl, rfl, rfl, rfl, rfl⟩
  · exact ⟨h, rfl, rfl, rfl, rfl, rfl⟩
theorem jumpM_fit {m : Mach} (h : m.Fit) (hat : m.at_ < m.code.length) {x : Ins} (hx : x.Ok m.code.length) : (jumpM m x).1.Fit ∧ (jumpM m x).1.code = m.code ∧ (jumpM m x).1.fuel = m.fuel ∧ (jumpM m x).1.done = m.done ∧ (jumpM m x).1.at_ = m.at_ ∧ (jumpM m x).1.over = m.over ∧ (jumpM m x).2.1 ≤ m.code.length := by
  have hn := hx.n
  unfold jumpM
  split
  · exact ⟨h, rfl, rfl, rfl, rfl, rfl, by simp only; omega⟩
  split
  · refine ⟨h, rfl, rfl, rfl, rfl, rfl, ?_⟩
    simp only
    split <;> omega
  split
  · split
    · rename_i h3
      exact ⟨h, rfl, rfl, rfl, rfl, rfl, by simp only; omega⟩
    · exact ⟨h, rfl, rfl, rfl, rfl, rfl, Nat.zero_le _⟩
  split
  · split
    · rename_i h3
      refine ⟨⟨h.fuel, h.len, h.code, h.at_, h.done, h.rlen, h.regs, h.nlen, h.nums, ?_, ?_, h.chunks, h.pieces⟩, rfl, rfl, rfl, rfl, rfl, by simp only; omega⟩
      · simp; omega
      · intro p hp
        rcases List.mem_append.1 hp with hp | hp
        · exact h.places p hp
        · simp at hp
          simp only
          omega
    · exact ⟨h, rfl, rfl, rfl, rfl, rfl, Nat.zero_le _⟩
  split
  · split
    · rename_i h3
      have hne : m.places ≠ [] := fun e => by rw [e] at h3; simp at h3
      refine ⟨⟨h.fuel, h.len, h.code, h.at_, h.done, h.rlen, h.regs, h.nlen, h.nums, ?_, fun r hr => h.places r (List.dropLast_subset _ hr), h.chunks, h.pieces⟩, rfl, rfl, rfl, rfl, rfl, ?_⟩
      · have := h.plen
        simp
        omega
      · show m.places.getLastD 0 ≤ m.code.length
        rw [List.getLastD_eq_getLast?, List.getLast?_eq_some_getLast hne]
        exact h.places _ (List.getLast_mem hne)
    · exact ⟨h, rfl, rfl, rfl, rfl, rfl, Nat.zero_le _⟩
  · exact ⟨h, rfl, rfl, rfl, rfl, rfl, by simp only; omega⟩
theorem endM_fit {m : Mach} (h : m.Fit) (c : Int) : (endM m c).Fit := ⟨h.fuel, h.len, h.code, h.at_, h.done, h.rlen, h.regs, h.nlen, h.nums, h.plen, h.places, h.chunks, h.pieces⟩

theorem code_get {m : Mach} (h : m.Fit) (hat : m.at_ < m.code.length) : m.code[m.at_]? = some (m.code.getD m.at_ default) ∧ (m.code.getD m.at_ default).Ok m.code.length ∧ (m.code.getD m.at_ default).k < 2 * signB := by
  have e : m.code[m.at_]? = some (m.code[m.at_]'hat) := List.getElem?_eq_getElem hat
  rw [List.getD_eq_getElem?_getD, e]
  exact ⟨rfl, h.code _ (List.getElem_mem hat)⟩
/-- a step keeps what may be -/
theorem stepM_fit {P : Program} (w : World) {m : Mach} (h : m.Fit) (hg : m.Goes) (ho : m.over = false) : (stepM m).1.Fit ∧ (stepM m).1.Goes ∧ (stepM m).1.done = m.done + 1 ∧ (stepM m).1.code = m.code ∧ (stepM m).1.fuel = m.fuel := by
  obtain ⟨g1, g2⟩ := hg ho
  obtain ⟨_, hx, hk⟩ := code_get h g1
  generalize hxx : m.code.getD m.at_ default = x at hx hk
  have h0 : ({ m with done := m.done + 1 } : Mach).Fit := ⟨h.fuel, h.len, h.code, h.at_, g2, h.rlen, h.regs, h.nlen, h.nums, h.plen, h.places, h.chunks, h.pieces⟩
  obtain ⟨d1, d2, d3, d4, d5, d6⟩ := doM_fit (P := P) w h0 (x := x) hx hk
  unfold stepM
  simp only [hxx]
  generalize doM { m with done := m.done + 1 } x = y at d1 d2 d3 d4 d5 d6
  simp only at d2 d3 d4 d5 d6
  have eGoes : ∀ (mm : Mach) (c : Int), (endM mm c).Goes := fun mm c h => by simp [endM] at h
  split
  · exact ⟨endM_fit d1 _, eGoes _ _, d4, d2, d3⟩
  · obtain ⟨j1, j2, j3, j4, j5, j6, j7⟩ := jumpM_fit d1 (x := x) (by rw [d5, d2]; exact g1) (by rw [d2]; exact hx)
    generalize jumpM y.1 x = z at j1 j2 j3 j4 j5 j6 j7
    split
    · exact ⟨endM_fit j1 _, eGoes _ _, j4.trans d4, j2.trans d2, j3.trans d3⟩
    · have hz : ({ z.1 with at_ := z.2.1 } : Mach).Fit := ⟨j1.fuel, j1.len, j1.code, by rw [← j2] at j7; exact j7, j1.done, j1.rlen, j1.regs, j1.nlen, j1.nums, j1.plen, j1.places, j1.chunks, j1.pieces⟩
      unfold nextM
      split
      · exact ⟨endM_fit hz _, eGoes _ _, j4.trans d4, j2.trans d2, j3.trans d3⟩
      split
      · exact ⟨endM_fit hz _, eGoes _ _, j4.trans d4, j2.trans d2, j3.trans d3⟩
      · rename_i e1 e2
        refine ⟨hz, fun _ => ⟨?_, ?_⟩, j4.trans d4, j2.trans d2, j3.trans d3⟩
        · have h7 := hz.at_
          simp only [not_or] at e1
          simp only at e1 h7 ⊢
          omega
        · have h7 := hz.done
          simp only at e2 h7 ⊢
          omega

/-! ### steps in rows -/
def toldOf (s : Mach × Int × List UInt8) : List (Int × List UInt8) := if s.2.1 = 0 then [] else [s.2]
theorem runM_over {m : Mach} (h : m.over = true) : ∀ k, runM k m = (m, [])
  | 0 => rfl
  | k + 1 => by rw [runM, if_pos h]
theorem runM_succ {m : Mach} (h : m.over = false) (k : Nat) : runM (k + 1) m = ((runM k (stepM m).1).1, toldOf (stepM m) ++ (runM k (stepM m).1).2) := by
  rw [runM, if_neg (by rw [h]; decide)]
  rfl
theorem runM_add : ∀ (a b : Nat) (m : Mach), runM (a + b) m = ((runM b (runM a m).1).1, (runM a m).2 ++ (runM b (runM a m).1).2)
  | 0, b, m => by simp [runM]
  | a + 1, b, m => by
    by_cases h : m.over = true
    · rw [runM_over h, runM_over h]
      simp [runM_over h]
    · have h' : m.over = false := by simpa using h
      rw [show a + 1 + b = (a + b) + 1 by omega, runM_succ h', runM_succ h', runM_add a b]
      simp
theorem runM_snoc {m : Mach} {k : Nat} (h : (runM k m).1.over = false) : runM (k + 1) m = ((stepM (runM k m).1).1, (runM k m).2 ++ toldOf (stepM (runM k m).1)) := by
  rw [runM_add k 1 m, runM_succ h]
  simp [runM]
theorem runM_stop {m : Mach} {k j : Nat} (h : (runM k m).1.over = true) (hj : k ≤ j) : runM j m = runM k m := by
  obtain ⟨d, rfl⟩ := Nat.exists_eq_add_of_le hj
  rw [runM_add, runM_over h]
  simp
/-- what may be, along a row of steps -/
theorem runM_fit {P : Program} (w : World) : ∀ (k : Nat) {m : Mach}, m.Fit → m.Goes → (runM k m).1.Fit ∧ (runM k m).1.Goes ∧ (runM k m).1.code = m.code ∧ (runM k m).1.fuel = m.fuel
  | 0, m, h, g => ⟨h, g, rfl, rfl⟩
  | k + 1, m, h, g => by
    by_cases ho : m.over = true
    · rw [runM_over ho]
      exact ⟨h, g, rfl, rfl⟩
    · have ho' : m.over = false := by simpa using ho
      obtain ⟨f1, f2, f3, f4, f5⟩ := stepM_fit (P := P) w h g ho'
      obtain ⟨r1, r2, r3, r4⟩ := runM_fit (P := P) w k f1 f2
      rw [runM_succ ho']
      exact ⟨r1, r2, r3.trans f4, r4.trans f5⟩
/-- done counts the steps -/
theorem runM_done {P : Program} (w : World) : ∀ (k : Nat) {m : Mach}, m.Fit → m.Goes → (∀ j, j < k → (runM j m).1.over = false) → (runM k m).1.done = m.done + k
  | 0, m, _, _, _ => rfl
  | k + 1, m, h, g, hall => by
    have ho' : m.over = false := hall 0 (by omega)
    obtain ⟨f1, f2, f3, f4, f5⟩ := stepM_fit (P := P) w h g ho'
    rw [runM_succ ho']
    have := runM_done (P := P) w k f1 f2 (fun j hj => by
      have := hall (j + 1) (by omega)
      rw [runM_succ ho'] at this
      exact this)
    simp only
    omega
end Go.Proofs.YtjloiclbknfomaaGreatDoor
