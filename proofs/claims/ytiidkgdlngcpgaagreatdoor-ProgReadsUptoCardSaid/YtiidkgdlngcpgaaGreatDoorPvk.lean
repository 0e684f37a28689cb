/- What is read out of a text: how many instructions, and their numbers (plain). -/
import Derived.Test.YtiidkgdlngcpgaaGreatDoorPv
set_option maxRecDepth 100000
namespace Go.Proofs.YtiidkgdlngcpgaaGreatDoor
open Ieee

theorem checkRes_k (fuel : Nat) (acc : List Ins) : (checkRes fuel acc).2.2.2 = acc ∨ (checkRes fuel acc).2.2.2 = [] := by
  unfold checkRes
  split
  · exact .inl rfl
  split
  · exact .inr rfl
  split
  · exact .inr rfl
  · exact .inr rfl
theorem parseY_k : ∀ (ys : List (List UInt8 × Bool)) (k fuel : Nat) (acc : List Ins), (∀ x ∈ acc, x.k < 2 * signB) → (∀ x ∈ (parseY ys k fuel acc).2.2.2, x.k < 2 * signB) ∧ (parseY ys k fuel acc).2.2.2.length ≤ acc.length + ys.length
  | [], k, fuel, acc, h => by
    rw [parseY]
    rcases checkRes_k fuel acc with e | e
    · rw [e]; exact ⟨h, by simp⟩
    · rw [e]; exact ⟨fun x hx => (by cases hx), by simp⟩
  | (s, en) :: r, k, fuel, acc, h => by
    rw [parseY]
    split
    · exact ⟨fun x hx => (by cases hx), by simp⟩
    split
    · cases hf : fuelOf s with
      | none => exact ⟨fun x hx => (by cases hx), by simp⟩
      | some f =>
        have ih := parseY_k r (k + 1) f acc h
        exact ⟨ih.1, by have := ih.2; rw [List.length_cons]; dsimp only; omega⟩
    · cases hf : readIns s with
      | none => exact ⟨fun x hx => (by cases hx), by simp⟩
      | some y =>
        have ih := parseY_k r (k + 1) fuel (acc ++ [y]) (fun x hx => by
          rcases List.mem_append.1 hx with hx | hx
          · exact h x hx
          · rw [List.mem_singleton] at hx
            rw [hx]
            exact (line_readIns hf).1.kb)
        exact ⟨ih.1, by have := ih.2; rw [List.length_append, List.length_cons, List.length_nil] at this; rw [List.length_cons]; dsimp only; omega⟩
theorem parse_k (L : List UInt8) : (∀ x ∈ (parseT L).2.2.2, x.k < 2 * signB) ∧ (parseT L).2.2.2.length ≤ (yl true (spl 10 L)).length := by
  rw [parseT_yl]
  have h := parseY_k (yl true (spl 10 L)) 1 0 [] (fun x hx => by cases hx)
  exact ⟨h.1, by have := h.2; simpa using this⟩
end Go.Proofs.YtiidkgdlngcpgaaGreatDoor
