/- An instruction's line, read word by word (plain). -/
import Derived.Test.YtiidkgdlngcpgaaGreatDoorQc
set_option maxRecDepth 100000
namespace Go.Proofs.YtiidkgdlngcpgaaGreatDoor
open Ieee

theorem spl_len (c : UInt8) : ∀ (l : List UInt8), ∀ w ∈ spl c l, w.length ≤ l.length
  | [], w, h => by
    have : w = [] := by simpa [spl] using h
    rw [this]; simp
  | x :: l, w, h => by
    have ih := spl_len c l
    obtain ⟨v, vs, e⟩ := spl_cons c l
    unfold spl at h
    split at h
    · rcases List.mem_cons.1 h with rfl | h
      · simp
      · have := ih w h; rw [List.length_cons]; omega
    · rw [e] at h ih
      rcases List.mem_cons.1 h with rfl | h
      · have := ih v (by simp)
        show (v.length + 1) ≤ _
        rw [List.length_cons]; omega
      · have := ih w (List.mem_cons_of_mem _ h)
        rw [List.length_cons]; omega
theorem spl_getD_len (c : UInt8) (l : List UInt8) (j : Nat) : ((spl c l).getD j []).length ≤ l.length := by
  by_cases h : j < (spl c l).length
  · rw [List.getD_eq_getElem?_getD, List.getElem?_eq_getElem h]
    exact spl_len c l _ (List.getElem_mem h)
  · rw [List.getD_eq_getElem?_getD, List.getElem?_eq_none (by omega)]
    simp
theorem spl_ge (c : UInt8) (l : List UInt8) : 1 ≤ (spl c l).length := by
  obtain ⟨w, ws, e⟩ := spl_cons c l
  rw [e]; simp
theorem spl_head (c : UInt8) (l : List UInt8) : (spl c l).headD [] = (spl c l).getD 0 [] := by
  obtain ⟨w, ws, e⟩ := spl_cons c l
  rw [e]; rfl
theorem opOf_hit {g : Nat} {w : List UInt8} (h0 : 1 ≤ g) (h1 : g < 25) (h : opText g = w) : opOf w = g := h ▸ (op_cases h0 h1).1
/-- a register's number, 0 where the word is none -/
def regU (ws : List (List UInt8)) (j : Nat) : Nat := (regOf (ws.getD (1 + j) [])).getD 0
def regX (ws : List (List UInt8)) (i j : Nat) : Nat := if j < i then regU ws j else 0
theorem regU_lt (ws : List (List UInt8)) (j : Nat) : regU ws j < 8 := by
  unfold regU
  cases h : regOf (ws.getD (1 + j) []) with
  | none => decide
  | some n => exact (regOf_some h).2
/-- a line whose op is known and whose words are as many as the op asks -/
def Hits (ws : List (List UInt8)) (o : Nat) : Prop := o ≠ 0 ∧ opOf (ws.headD []) = o ∧ ws.length = opMany o
theorem read_miss {s : List UInt8} {o : Nat} (ho : opOf ((spl 32 s).headD []) = o) (h : ¬ Hits (spl 32 s) o) : readIns s = none := by
  unfold readIns readW
  rw [ho]
  refine if_pos ?_
  by_cases h0 : o = 0
  · exact .inl h0
  · exact .inr fun e => h ⟨h0, ho, e⟩
theorem read_reg {s : List UInt8} {o r i : Nat} (h : Hits (spl 32 s) o) (hr : opRegs (o : Int) = (r : Int)) (h3 : r ≤ 3) (hi : i < r) (hn : regOf ((spl 32 s).getD (1 + i) []) = none) : readIns s = none := by
  unfold readIns readW
  rw [h.2.1, if_neg (fun e => e.elim h.1 fun e => e h.2.2), hr, Int.toNat_natCast]
  have hrg : rg (spl 32 s) r i = none := by unfold rg; rw [if_pos hi, hn]
  rcases i with _ | _ | _ | i
  · rw [hrg]; rfl
  · rw [hrg]; cases rg (spl 32 s) r 0 <;> rfl
  · rw [hrg]; cases rg (spl 32 s) r 0 <;> cases rg (spl 32 s) r 1 <;> rfl
  · omega
theorem read_all {s : List UInt8} {o r : Nat} (h : Hits (spl 32 s) o) (hr : opRegs (o : Int) = (r : Int)) (hok : ∀ j : Nat, j < r → (regOf ((spl 32 s).getD (1 + j) [])).isSome = true) :
    readIns s = readTail (spl 32 s) o r (regX (spl 32 s) r 0) (regX (spl 32 s) r 1) (regX (spl 32 s) r 2) := by
  have key : ∀ j, rg (spl 32 s) r j = some (regX (spl 32 s) r j) := fun j => by
    unfold rg regX
    by_cases hj : j < r
    · rw [if_pos hj, if_pos hj]
      unfold regU
      have := hok j hj
      cases hh : regOf ((spl 32 s).getD (1 + j) []) with
      | none => rw [hh] at this; cases this
      | some n => rfl
    · rw [if_neg hj, if_neg hj]
  unfold readIns readW
  rw [h.2.1, if_neg (fun e => e.elim h.1 fun e => e h.2.2), hr, Int.toNat_natCast, key 0, key 1, key 2]
  rfl
/-- a register's word: two bytes -/
theorem reg_word {w : List UInt8} {u : Nat} (h : regOf w = some u) : ∃ d : UInt8, w = [114, d] ∧ 48 ≤ d.toNat ∧ d.toNat ≤ 55 ∧ u = d.toNat - 48 := by
  unfold regOf at h
  split at h
  · rename_i hc
    injection h with h
    match w, hc with
    | [r, d], hc =>
      obtain ⟨_, h1, h2, h3⟩ := hc
      replace h1 : r = 114 := h1
      exact ⟨d, by rw [h1], h2, h3, h.symm⟩
  · cases h
theorem reg_none {w : List UInt8} (h : regOf w = none) : w.length ≠ 2 ∨ ∃ a d : UInt8, w = [a, d] ∧ (a ≠ 114 ∨ (a = 114 ∧ d.toNat < 48) ∨ (a = 114 ∧ 48 ≤ d.toNat ∧ 56 ≤ d.toNat)) := by
  by_cases hl : w.length = 2
  · match w, hl with
    | [a, d], _ =>
      refine .inr ⟨a, d, rfl, ?_⟩
      by_cases ha : a = 114
      · by_cases h1 : d.toNat < 48
        · exact .inr (.inl ⟨ha, h1⟩)
        · refine .inr (.inr ⟨ha, by omega, ?_⟩)
          refine Classical.byContradiction fun h2 => ?_
          have : regOf [a, d] = some (d.toNat - 48) := if_pos ⟨rfl, ha, by show 48 ≤ d.toNat; omega, by show d.toNat ≤ 55; omega⟩
          rw [this] at h
          cases h
      · exact .inl ha
  · exact .inl hl
theorem opMany_eq (o r : Nat) (hr : opRegs (o : Int) = (r : Int)) : opMany o = 1 + r + (if opN (o : Int) = true ∨ opK (o : Int) = true then 1 else 0) := by
  unfold opMany
  rw [hr, Int.toNat_natCast]
end Go.Proofs.YtiidkgdlngcpgaaGreatDoor
