/- A program's bytes, read step by step (plain). -/
import Derived.Test.YtdkencepmdfacaaGreatDoorQb
set_option maxRecDepth 100000
namespace Go.Proofs.YtdkencepmdfacaaGreatDoor
open Ieee

theorem str_back (L : List UInt8) : (str L).data.toList = L := by simp [str]
theorem step_place {L : List UInt8} {p : Nat} {S : List UInt8} {q : Nat} {f : Int} (hp : p ≤ L.length) (h : StepOk (str L) p S q f) : q ≤ L.length := by
  rcases h with h | h
  · rw [h.2]; exact hp
  · have := h.2.2.1; rw [str_size] at this; exact this
theorem rn_told {L : List UInt8} {most p : Nat} {e : Int} (hp : p ≤ L.length) : ∃ (n q : Nat) (f : Int), rn L most (p, e) = ((n : Int), q, f) ∧ n ≤ most ∧ n < 18446744073709551616 ∧ q ≤ L.length := by
  by_cases he : e = 0
  · subst he
    obtain ⟨n, q, f, h1, h2, h3, h4⟩ := step_num (str L) p most 21 (by rw [str_size]; exact hp) (by decide)
    rw [str_back] at h1
    exact ⟨n, q, f, h1, h3, h2, step_place hp h4⟩
  · exact ⟨0, p, e, rdrStep_fault he, Nat.zero_le _, by decide, hp⟩
theorem rl_told {L : List UInt8} {most p : Nat} {e : Int} (hp : p ≤ L.length) : ∃ (n q : Nat) (f : Int), rl L most (p, e) = ((n : Int), q, f) ∧ n ≤ most ∧ q ≤ L.length := by
  by_cases he : e = 0
  · subst he
    obtain ⟨n, q, f, h1, h2, h3, h4⟩ := step_num (str L) p most 23 (by rw [str_size]; exact hp) (by decide)
    rw [str_back] at h1
    exact ⟨n, q, f, h1, h3, step_place hp h4⟩
  · exact ⟨0, p, e, rdrStep_fault he, Nat.zero_le _, hp⟩
theorem rb_told {L : List UInt8} {p : Nat} {e : Int} (hp : p ≤ L.length) : ∃ (n q : Nat) (f : Int), rb L (p, e) = ((n : Int), q, f) ∧ n < 18446744073709551616 ∧ q ≤ L.length := by
  by_cases he : e = 0
  · subst he
    obtain ⟨n, q, f, h1, h2, h4⟩ := step_bits (str L) p (by rw [str_size]; exact hp)
    rw [str_back] at h1
    exact ⟨n, q, f, h1, h2, step_place hp h4⟩
  · exact ⟨0, p, e, rdrStep_fault he, by decide, hp⟩
/-- where the reader stands behind so many registers -/
def regS (L : List UInt8) (s : Nat × Int) : Nat → Nat × Int
  | 0 => s
  | i + 1 => (rn L 7 (regS L s i)).2
/-- the registers read, the others 0 -/
def regY (L : List UInt8) (s : Nat × Int) (i j : Nat) : Int := if j < i then (rn L 7 (regS L s j)).1 else 0
theorem regS_le {L : List UInt8} {s : Nat × Int} (h : s.1 ≤ L.length) : ∀ i, (regS L s i).1 ≤ L.length
  | 0 => h
  | i + 1 => by
    obtain ⟨n, q, f, h1, _, _, h2⟩ := rn_told (most := 7) (e := (regS L s i).2) (regS_le h i)
    show (rn L 7 ((regS L s i).1, (regS L s i).2)).2.1 ≤ _
    rw [h1]
    exact h2
theorem regs_read {L : List UInt8} {s : Nat × Int} {r : Nat} (h3 : r ≤ 3) :
    (rr L r 0 s).1 = regY L s r 0 ∧ (rr L r 1 (rr L r 0 s).2).1 = regY L s r 1 ∧ (rr L r 2 (rr L r 1 (rr L r 0 s).2).2).1 = regY L s r 2 ∧ (rr L r 2 (rr L r 1 (rr L r 0 s).2).2).2 = regS L s r := by
  rcases r with _ | _ | _ | _ | r
  · simp [rr, regY, regS]
  · simp [rr, regY, regS]
  · simp [rr, regY, regS]
  · simp [rr, regY, regS]
  · omega
def stepN (L : List UInt8) (bn : Bool) (s : Nat × Int) : Int × Nat × Int := if bn = true then rn L 64 s else (0, s)
def stepK (L : List UInt8) (bk : Bool) (s : Nat × Int) : Int × Nat × Int := if bk = true then rb L s else (0, s)
theorem readB_told {L : List UInt8} {s : Nat × Int} {o r q : Nat} {f : Int} (h : rn L 24 s = ((o : Int), q, f)) (hr : opRegs (o : Int) = (r : Int)) (h3 : r ≤ 3) :
    readB L s = (⟨o, regY L (q, f) r 0, regY L (q, f) r 1, regY L (q, f) r 2, (stepN L (opN (o : Int)) (regS L (q, f) r)).1, (stepK L (opK (o : Int)) (stepN L (opN (o : Int)) (regS L (q, f) r)).2).1.toNat⟩, (stepK L (opK (o : Int)) (stepN L (opN (o : Int)) (regS L (q, f) r)).2).2) := by
  obtain ⟨e1, e2, e3, e4⟩ := regs_read (L := L) (s := (q, f)) h3
  unfold readB stepN stepK
  simp only [h, hr, e1, e2, e3, e4]
theorem regY_set (L : List UInt8) (s : Nat × Int) (i : Nat) (hi : i < 3) (G : Value) (u : Nat) (hu : (rn L 7 (regS L s i)).1 = (u : Int)) :
    (#[G, .int .i64 (regY L s i 0), .int .i64 (regY L s i 1), .int .i64 (regY L s i 2), .int .i64 0, .int .u64 0] : Array Value).setIfInBounds (1 + i) (.int .i64 (u : Nat)) =
      #[G, .int .i64 (regY L s (i + 1) 0), .int .i64 (regY L s (i + 1) 1), .int .i64 (regY L s (i + 1) 2), .int .i64 0, .int .u64 0] := by
  rw [← hu]
  rcases i with _ | _ | _ | i
  · simp [regY]
  · simp [regY]
  · simp [regY]
  · omega
theorem regY_zero (L : List UInt8) (s : Nat × Int) (G : Value) : (#[G, .int .i64 (regY L s 0 0), .int .i64 (regY L s 0 1), .int .i64 (regY L s 0 2), .int .i64 0, .int .u64 0] : Array Value) = #[G, .int .i64 0, .int .i64 0, .int .i64 0, .int .i64 0, .int .u64 0] := by
  simp [regY]
end Go.Proofs.YtdkencepmdfacaaGreatDoor
