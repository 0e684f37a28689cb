/- Programs and the machine that reckons them (plain). -/
import Derived.Test.YtdkencepmdfacaaGreatDoorFl
set_option maxRecDepth 100000
namespace Go.Proofs.YtdkencepmdfacaaGreatDoor
open Ieee

/-- an instruction -/
structure Ins where
  op : Int
  a : Int
  b : Int
  c : Int
  n : Int
  k : Nat
instance : Inhabited Ins := ⟨⟨0, 0, 0, 0, 0, 0⟩⟩
/-- how many registers an op names, whether N, whether K -/
def opRegs (op : Int) : Int :=
  if op = 1 ∨ op = 15 ∨ op = 16 ∨ (19 ≤ op ∧ op ≤ 23) then 1
  else if op = 2 ∨ op = 11 ∨ op = 12 ∨ op = 13 then 2
  else if 3 ≤ op ∧ op ≤ 10 then 3 else 0
def opN (op : Int) : Bool := decide (op = 14 ∨ op = 15 ∨ op = 17)
def opK (op : Int) : Bool := decide (op = 1)
/-- what is wrong with a register -/
def regBad (r i v : Int) : Int := if r ≤ i ∧ v ≠ 0 then 54 else if v < 0 ∨ 8 ≤ v then 52 else 0
/-- what is wrong with an instruction (an Errno; 0: nothing) -/
def insWrong (x : Ins) (many : Nat) : Int :=
  if x.op < 1 ∨ 25 ≤ x.op then 51
  else if regBad (opRegs x.op) 0 x.a ≠ 0 then regBad (opRegs x.op) 0 x.a
  else if regBad (opRegs x.op) 1 x.b ≠ 0 then regBad (opRegs x.op) 1 x.b
  else if regBad (opRegs x.op) 2 x.c ≠ 0 then regBad (opRegs x.op) 2 x.c
  else if opN x.op = false ∧ x.n ≠ 0 then 54
  else if x.n < 0 ∨ (many : Int) < x.n then 53
  else if (opK x.op = false ∧ x.k ≠ 0) ∨ fcan x.k ≠ x.k then 54
  else 0
/-- the first instruction that is wrong -/
def codeWrong (many : Nat) : List Ins → Nat → Int × Nat
  | [], _ => (0, 0)
  | x :: l, i => if insWrong x many ≠ 0 then (insWrong x many, i) else codeWrong many l (i + 1)
def progCheck (fuel : Int) (l : List Ins) : Int × Nat :=
  if fuel < 1 ∨ 1024 < fuel then (56, 0)
  else if l.length < 1 ∨ 64 < l.length then (50, 0)
  else codeWrong l.length l 0

/-- a machine -/
structure Mach where
  fuel : Nat
  code : List Ins
  at_ : Nat
  done : Nat
  regs : List Nat
  nums : List Nat
  places : List Nat
  chunks : Nat
  pieces : Nat
  over : Bool
  rcode : Int
  rbits : Nat
def Mach.reg (m : Mach) (i : Int) : Nat := m.regs.getD i.toNat 0

/-! ### what may be -/
def Can (n : Nat) : Prop := n < 2 * signB ∧ fcan n = n
structure Ins.Ok (x : Ins) (many : Nat) : Prop where
  op : 1 ≤ x.op ∧ x.op ≤ 24
  a : 0 ≤ x.a ∧ x.a < 8
  b : 0 ≤ x.b ∧ x.b < 8
  c : 0 ≤ x.c ∧ x.c < 8
  n : 0 ≤ x.n ∧ x.n ≤ (many : Int)
  k : fcan x.k = x.k
structure Mach.Fit (m : Mach) : Prop where
  fuel : 1 ≤ m.fuel ∧ m.fuel ≤ 1024
  len : 1 ≤ m.code.length ∧ m.code.length ≤ 64
  code : ∀ x ∈ m.code, x.Ok m.code.length ∧ x.k < 2 * signB
  at_ : m.at_ ≤ m.code.length
  done : m.done ≤ m.fuel
  rlen : m.regs.length = 8
  regs : ∀ r ∈ m.regs, Can r
  nlen : m.nums.length ≤ 8
  nums : ∀ r ∈ m.nums, Can r
  plen : m.places.length ≤ 8
  places : ∀ p ∈ m.places, p ≤ m.code.length
  chunks : m.chunks ≤ 32
  pieces : m.pieces ≤ 16

theorem regBad_ok {r i v : Int} (h : regBad r i v = 0) : 0 ≤ v ∧ v < 8 := by
  unfold regBad at h
  split at h
  · cases h
  split at h
  · cases h
  omega
theorem ins_ok {x : Ins} {many : Nat} (h : insWrong x many = 0) : x.Ok many := by
  unfold insWrong at h
  split at h
  · cases h
  rename_i h1
  split at h
  · rename_i h2; exact absurd h h2
  rename_i h2
  split at h
  · rename_i h3; exact absurd h h3
  rename_i h3
  split at h
  · rename_i h4; exact absurd h h4
  rename_i h4
  split at h
  · cases h
  split at h
  · cases h
  rename_i h6
  split at h
  · cases h
  rename_i h7
  exact ⟨by omega, regBad_ok (by simpa using h2), regBad_ok (by simpa using h3), regBad_ok (by simpa using h4), by omega, Classical.byContradiction fun hk => h7 (.inr hk)⟩
theorem codeWrong_ok {many : Nat} : ∀ {l : List Ins} {i : Nat}, (codeWrong many l i).1 = 0 → ∀ x ∈ l, x.Ok many
  | [], _, _, x, hx => by cases hx
  | y :: l, i, h, x, hx => by
    unfold codeWrong at h
    split at h
    · rename_i h1; exact absurd h h1
    · rename_i h1
      rcases List.mem_cons.1 hx with rfl | hx
      · exact ins_ok (by simpa using h1)
      · exact codeWrong_ok h x hx
theorem progCheck_ok {fuel : Int} {l : List Ins} (h : (progCheck fuel l).1 = 0) : (1 ≤ fuel ∧ fuel ≤ 1024) ∧ (1 ≤ l.length ∧ l.length ≤ 64) ∧ ∀ x ∈ l, x.Ok l.length := by
  unfold progCheck at h
  split at h
  · cases h
  split at h
  · cases h
  exact ⟨by omega, by omega, codeWrong_ok h⟩
end Go.Proofs.YtdkencepmdfacaaGreatDoor
