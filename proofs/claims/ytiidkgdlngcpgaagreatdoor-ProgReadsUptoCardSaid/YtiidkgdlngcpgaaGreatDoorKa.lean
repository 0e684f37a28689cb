/- Programs and the machine that reckons them (plain). -/
import Derived.Test.YtiidkgdlngcpgaaGreatDoorFl
set_option maxRecDepth 100000
namespace Go.Proofs.YtiidkgdlngcpgaaGreatDoor
open Ieee

/-- an instruction -/
structure Ins where
  op : Int
  a : Int
  b : Int
  c : Int
  n : Int
  k : Nat
instance : Inhabited Ins := ⟨⟨0, 0, 0, 0, 0, 0⟩⟩
/-- how many registers an op names, whether N, whether K -/
def opRegs (op : Int) : Int :=
  if op = 1 ∨ op = 15 ∨ op = 16 ∨ (19 ≤ op ∧ op ≤ 23) then 1
  else if op = 2 ∨ op = 11 ∨ op = 12 ∨ op = 13 then 2
  else if 3 ≤ op ∧ op ≤ 10 then 3 else 0
def opN (op : Int) : Bool := decide (op = 14 ∨ op = 15 ∨ op = 17)
def opK (op : Int) : Bool := decide (op = 1)
/-- what is wrong with a register -/
def regBad (r i v : Int) : Int := if r ≤ i ∧ v ≠ 0 then 54 else if v < 0 ∨ 8 ≤ v then 52 else 0
/-- what is wrong with an instruction (an Errno; 0: nothing) -/
def insWrong (x : Ins) (many : Nat) : Int :=
  if x.op < 1 ∨ 25 ≤ x.op then 51
  else if regBad (opRegs x.op) 0 x.a ≠ 0 then regBad (opRegs x.op) 0 x.a
  else if regBad (opRegs x.op) 1 x.b ≠ 0 then regBad (opRegs x.op) 1 x.b
  else if regBad (opRegs x.op) 2 x.c ≠ 0 then regBad (opRegs x.op) 2 x.c
  else if opN x.op = false ∧ x.n ≠ 0 then 54
  else if x.n < 0 ∨ (many : Int) < x.n then 53
  else if (opK x.op = false ∧ x.k ≠ 0) ∨ fcan x.k ≠ x.k then 54
  else 0
/-- the first instruction that is wrong -/
def codeWrong (many : Nat) : List Ins → Nat → Int × Nat
  | [], _ => (0, 0)
  | x :: l, i => if insWrong x many ≠ 0 then (insWrong x many, i) else codeWrong many l (i + 1)
def progCheck (fuel : Int) (l : List Ins) : Int × Nat :=
  if fuel < 1 ∨ 1024 < fuel then (56, 0)
  else if l.length < 1 ∨ 64 < l.length then (50, 0)
  else codeWrong l.length l 0

/-- a machine -/
structure Mach where
  fuel : Nat
  code : List Ins
  at_ : Nat
  done : Nat
  regs : List Nat
  nums : List Nat
  places : List Nat
  chunks : Nat
  pieces : Nat
  over : Bool
  rcode : Int
  rbits : Nat
def reckonM (op : Int) (b c : Nat) : Nat :=
  if op = 2 then fcan b else if op = 3 then fadd b c else if op = 4 then fsub b c else if op = 5 then fmul b c else if op = 6 then fdiv b c
  else if op = 7 then fmin b c else if op = 8 then fmax b c else if op = 9 then (if fless b c = true then fof 1 else 0) else if op = 10 then fof (forder b c)
  else if op = 11 then fneg b else if op = 12 then fabs b else ffloor b
def Mach.reg (m : Mach) (i : Int) : Nat := m.regs.getD i.toNat 0
/-- what the first half of an instruction does (all but jumps): the machine, what it told (0 nothing, 1 a chunk, 2 a piece), the trap (0: none) -/
def doM (m : Mach) (x : Ins) : Mach × Int × Int :=
  if x.op = 1 then ({ m with regs := m.regs.set x.a.toNat x.k }, 0, 0)
  else if x.op ≤ 13 then ({ m with regs := m.regs.set x.a.toNat (reckonM x.op (m.reg x.b) (m.reg x.c)) }, 0, 0)
  else if x.op = 19 then if m.nums.length < 8 then ({ m with nums := m.nums ++ [m.reg x.a] }, 0, 0) else (m, 0, 2)
  else if x.op = 20 then if 0 < m.nums.length then ({ m with regs := m.regs.set x.a.toNat (m.nums.getLastD 0), nums := m.nums.dropLast }, 0, 0) else (m, 0, 3)
  else if x.op = 21 then if m.chunks < 32 then ({ m with chunks := m.chunks + 1 }, 1, 0) else (m, 0, 5)
  else if x.op = 22 then if m.pieces < 16 then ({ m with pieces := m.pieces + 1 }, 2, 0) else (m, 0, 6)
  else if x.op = 23 then (m, 0, 7)
  else (m, 0, 0)
/-- the second half: the machine, where it goes on, the trap -/
def jumpM (m : Mach) (x : Ins) : Mach × Nat × Int :=
  if x.op = 14 then (m, x.n.toNat, 0)
  else if x.op = 15 then (m, if fclass (m.reg x.a) ≠ 2 then x.n.toNat else m.at_ + 1, 0)
  else if x.op = 16 then if (fintR (m.reg x.a)).2 = 0 ∧ 0 ≤ (fintR (m.reg x.a)).1 ∧ (fintR (m.reg x.a)).1 ≤ (m.code.length : Int) then (m, (fintR (m.reg x.a)).1.toNat, 0) else (m, 0, 4)
  else if x.op = 17 then if m.places.length < 8 then ({ m with places := m.places ++ [m.at_ + 1] }, x.n.toNat, 0) else (m, 0, 2)
  else if x.op = 18 then if 0 < m.places.length then ({ m with places := m.places.dropLast }, m.places.getLastD 0, 0) else (m, 0, 3)
  else (m, m.at_ + 1, 0)
def endM (m : Mach) (code : Int) : Mach := { m with over := true, rcode := code, rbits := if code = 0 then m.reg 0 else 0 }
/-- how it goes on behind an instruction -/
def nextM (m : Mach) (x : Ins) : Mach :=
  if x.op = 24 ∨ m.at_ = m.code.length then endM m 0
  else if m.done = m.fuel then endM m 1 else m
/-- the text that is told -/
def toldM (m : Mach) (x : Ins) (kind : Int) : List UInt8 := if kind = 0 then [] else ftext (m.reg x.a)
/-- one step of a machine that is not over: the machine, the kind, the text -/
def stepM (m : Mach) : Mach × Int × List UInt8 :=
  let x := m.code.getD m.at_ default
  let m0 := { m with done := m.done + 1 }
  let y := doM m0 x
  if y.2.2 ≠ 0 then (endM y.1 y.2.2, 0, [])
  else
    let z := jumpM y.1 x
    if z.2.2 ≠ 0 then (endM z.1 z.2.2, 0, [])
    else (nextM { z.1 with at_ := z.2.1 } x, y.2.1, toldM m x y.2.1)
/-- so many steps at most: the machine, what they told -/
def runM : Nat → Mach → Mach × List (Int × List UInt8)
  | 0, m => (m, [])
  | k + 1, m => if m.over = true then (m, []) else
    ((runM k (stepM m).1).1, (if (stepM m).2.1 = 0 then [] else [(stepM m).2]) ++ (runM k (stepM m).1).2)
def newM (fuel : Nat) (code : List Ins) : Mach := ⟨fuel, code, 0, 0, [0, 0, 0, 0, 0, 0, 0, 0], [], [], 0, 0, false, 0, 0⟩
def wholeM (fuel : Nat) (code : List Ins) : Mach × List (Int × List UInt8) := runM fuel (newM fuel code)

/-! ### what may be -/
def Can (n : Nat) : Prop := n < 2 * signB ∧ fcan n = n
structure Ins.Ok (x : Ins) (many : Nat) : Prop where
  op : 1 ≤ x.op ∧ x.op ≤ 24
  a : 0 ≤ x.a ∧ x.a < 8
  b : 0 ≤ x.b ∧ x.b < 8
  c : 0 ≤ x.c ∧ x.c < 8
  n : 0 ≤ x.n ∧ x.n ≤ (many : Int)
  k : fcan x.k = x.k
structure Mach.Fit (m : Mach) : Prop where
  fuel : 1 ≤ m.fuel ∧ m.fuel ≤ 1024
  len : 1 ≤ m.code.length ∧ m.code.length ≤ 64
  code : ∀ x ∈ m.code, x.Ok m.code.length ∧ x.k < 2 * signB
  at_ : m.at_ ≤ m.code.length
  done : m.done ≤ m.fuel
  rlen : m.regs.length = 8
  regs : ∀ r ∈ m.regs, Can r
  nlen : m.nums.length ≤ 8
  nums : ∀ r ∈ m.nums, Can r
  plen : m.places.length ≤ 8
  places : ∀ p ∈ m.places, p ≤ m.code.length
  chunks : m.chunks ≤ 32
  pieces : m.pieces ≤ 16

/-- a machine that is not over goes on -/
def Mach.Goes (m : Mach) : Prop := m.over = false → m.at_ < m.code.length ∧ m.done < m.fuel
theorem regBad_ok {r i v : Int} (h : regBad r i v = 0) : 0 ≤ v ∧ v < 8 := by
  unfold regBad at h
  split at h
  · cases h
  split at h
  · cases h
  omega
theorem ins_ok {x : Ins} {many : Nat} (h : insWrong x many = 0) : x.Ok many := by
  unfold insWrong at h
  split at h
  · cases h
  rename_i h1
  split at h
  · rename_i h2; exact absurd h h2
  rename_i h2
  split at h
  · rename_i h3; exact absurd h h3
  rename_i h3
  split at h
  · rename_i h4; exact absurd h h4
  rename_i h4
  split at h
  · cases h
  split at h
  · cases h
  rename_i h6
  split at h
  · cases h
  rename_i h7
  exact ⟨by omega, regBad_ok (by simpa using h2), regBad_ok (by simpa using h3), regBad_ok (by simpa using h4), by omega, Classical.byContradiction fun hk => h7 (.inr hk)⟩
theorem codeWrong_ok {many : Nat} : ∀ {l : List Ins} {i : Nat}, (codeWrong many l i).1 = 0 → ∀ x ∈ l, x.Ok many
  | [], _, _, x, hx => by cases hx
  | y :: l, i, h, x, hx => by
    unfold codeWrong at h
    split at h
    · rename_i h1; exact absurd h h1
    · rename_i h1
      rcases List.mem_cons.1 hx with rfl | hx
      · exact ins_ok (by simpa using h1)
      · exact codeWrong_ok h x hx
theorem progCheck_ok {fuel : Int} {l : List Ins} (h : (progCheck fuel l).1 = 0) : (1 ≤ fuel ∧ fuel ≤ 1024) ∧ (1 ≤ l.length ∧ l.length ≤ 64) ∧ ∀ x ∈ l, x.Ok l.length := by
  unfold progCheck at h
  split at h
  · cases h
  split at h
  · cases h
  exact ⟨by omega, by omega, codeWrong_ok h⟩
theorem can_zero : Can 0 := ⟨by unfold signB; omega, by decide⟩
theorem fit_new {fuel : Nat} {l : List Ins} (h : (progCheck fuel l).1 = 0) (hk : ∀ x ∈ l, x.k < 2 * signB) : (newM fuel l).Fit := by
  obtain ⟨h1, h2, h3⟩ := progCheck_ok h
  refine ⟨by simp only [newM]; omega, h2, fun x hx => ⟨h3 x hx, hk x hx⟩, Nat.zero_le _, Nat.zero_le _, rfl, ?_, by simp [newM], by simp [newM], by simp [newM], by simp [newM], by simp [newM], by simp [newM]⟩
  intro r hr
  simp [newM] at hr
  subst hr
  exact can_zero
theorem goes_new {fuel : Nat} {l : List Ins} (h : (progCheck fuel l).1 = 0) : (newM fuel l).Goes := by
  obtain ⟨h1, h2, h3⟩ := progCheck_ok h
  exact fun _ => ⟨by simp only [newM]; omega, by simp only [newM]; omega⟩
end Go.Proofs.YtiidkgdlngcpgaaGreatDoor
