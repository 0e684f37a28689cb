/- A program's text in numbers, piece by piece (plain). -/
import Derived.Test.YtdkencepmdfacaaGreatDoorGr3
set_option maxRecDepth 100000
namespace Go.Proofs.YtdkencepmdfacaaGreatDoor
open Ieee

theorem itoa_len6 {n : Int} (h1 : -100000 < n) (h2 : n < 100000) : (Lib.itoa n).length ≤ 6 := by
  unfold Lib.itoa
  split
  · have := digits_le 4 n.natAbs (by omega)
    rw [List.length_cons, Lib.decDigits_length]
    omega
  · have := digits_le 4 n.toNat (by omega)
    rw [Lib.decDigits_length]
    omega
theorem ftext_len32 (a : Nat) : (ftext a).length ≤ 32 := by
  unfold ftext
  by_cases hn : isN a = true
  · rw [if_pos hn]; decide
  · rw [if_neg hn]
    have hs : (if signB ≤ a then [45] else ([] : List UInt8)).length ≤ 1 := by split <;> decide
    have ht : (if a % signB = infB then [105, 110, 102] else if a % signB = 0 then [48] else Lib.decDigits (oddM (a % signB)) ++ 112 :: Lib.itoa (oddE (a % signB)) : List UInt8).length ≤ 31 := by
      by_cases h1 : a % signB = infB
      · rw [if_pos h1]; decide
      rw [if_neg h1]
      by_cases h2 : a % signB = 0
      · rw [if_pos h2]; decide
      rw [if_neg h2]
      have hlt : a % signB < infB := by
        unfold isN at hn
        simp only [decide_eq_true_eq] at hn
        omega
      obtain ⟨q1, q2, q3⟩ := odd_split h2
      have hm : oddM (a % signB) ≤ takenM (a % signB) := by unfold oddM; exact Nat.div_le_self _ _
      have hm2 : takenM (a % signB) < 9007199254740992 := taken_lt
      have he1 := takenE_ge (a % signB)
      have he2 := takenE_le hlt
      have hd := digits_le 15 (oddM (a % signB)) (by omega)
      have hi := itoa_len6 (n := oddE (a % signB)) (by unfold oddE; omega) (by unfold oddE; omega)
      rw [List.length_append, List.length_cons, Lib.decDigits_length]
      omega
    rw [List.length_append]
    omega
theorem dec_len {n k : Nat} (h : n < 10 ^ (k + 1)) : (Lib.decDigits n).length ≤ k + 1 := by
  rw [Lib.decDigits_length]
  exact digits_le k n h
/-- the text of the first instructions -/
def headT (fuel : Nat) (l : List Ins) (g : Nat) : List UInt8 := fuelW ++ Lib.decDigits fuel ++ 10 :: linesT (l.take g)
theorem headT_all {fuel : Nat} {l : List Ins} (n : Nat) (h : l.length ≤ n) : headT fuel l n = progText fuel l := by unfold headT progText; rw [List.take_of_length_le h]
theorem headT_zero (fuel : Nat) (l : List Ins) : headT fuel l 0 = fuelW ++ Lib.decDigits fuel ++ [10] := by simp [headT, linesT]
theorem headT_succ {fuel : Nat} {l : List Ins} {g : Nat} {x : Ins} (h : l[g]? = some x) : headT fuel l (g + 1) = headT fuel l g ++ (x.line ++ [10]) := by
  obtain ⟨h1, h2⟩ := List.getElem?_eq_some_iff.1 h
  have e : l.take (g + 1) = l.take g ++ [x] := by rw [List.take_succ_eq_append_getElem h1, h2]
  unfold headT
  rw [e]
  simp [linesT]
/-- the text of the first registers -/
def regT (v : Nat → Nat) (i : Nat) : List UInt8 := (List.range i).flatMap fun j => 32 :: 114 :: Lib.decDigits (v j)
theorem regT_zero (v : Nat → Nat) : regT v 0 = [] := rfl
theorem regT_succ (v : Nat → Nat) (i : Nat) : regT v (i + 1) = regT v i ++ (32 :: 114 :: Lib.decDigits (v i)) := by simp [regT, List.range_succ]
theorem regT_le {v : Nat → Nat} (h : ∀ i, v i < 8) : ∀ i, (regT v i).length ≤ 3 * i
  | 0 => by simp [regT]
  | i + 1 => by
    have := regT_le h i
    have h2 := h i
    have := dec_len (n := v i) (k := 0) (by omega)
    rw [regT_succ, List.length_append, List.length_cons, List.length_cons]
    omega
def tailT (bn bk : Bool) (n k : Nat) : List UInt8 := (if bn = true then 32 :: Lib.decDigits n else []) ++ (if bk = true then 32 :: ftext k else [])
theorem line_told {x : Ins} {o r n : Nat} {v : Nat → Nat} (e0 : x.op = (o : Int)) (e1 : x.a = (v 0 : Nat)) (e2 : x.b = (v 1 : Nat)) (e3 : x.c = (v 2 : Nat)) (e4 : x.n = (n : Int)) (er : opRegs (o : Int) = (r : Int)) (hr : r ≤ 3) :
    x.line = opText o ++ (regT v r ++ tailT (opN (o : Int)) (opK (o : Int)) n x.k) := by
  have hw : (List.range r).map (fun i => regW (x.regI i)) = (List.range r).map fun i => 114 :: Lib.decDigits (v i) := by
    apply List.map_congr_left
    intro i hi
    rw [List.mem_range] at hi
    show 114 :: Lib.decDigits (x.regI i).toNat = _
    rcases i with _ | _ | _ | i
    · show 114 :: Lib.decDigits x.a.toNat = _; rw [e1, Int.toNat_natCast]
    · show 114 :: Lib.decDigits x.b.toNat = _; rw [e2, Int.toNat_natCast]
    · show 114 :: Lib.decDigits x.c.toNat = _; rw [e3, Int.toNat_natCast]
    · omega
  unfold Ins.line Ins.words
  rw [join_flat, e0, er, Int.toNat_natCast, Int.toNat_natCast, hw, List.flatMap_append, List.flatMap_map]
  congr 2
  unfold Ins.lastW tailT
  rw [e0, e4, Int.toNat_natCast]
  have hnk := nk_not (o : Int)
  cases hN : opN (o : Int) <;> cases hK : opK (o : Int)
  · rfl
  · simp
  · simp
  · exact absurd ⟨hN, hK⟩ hnk
theorem opText_len (o : Nat) : (opText o).length ≤ 5 := by
  unfold opText
  split <;> decide
theorem tailT_le {bn bk : Bool} {n k : Nat} (hn : n ≤ 64) : (tailT bn bk n k).length ≤ 36 := by
  have := dec_len (n := n) (k := 1) (by omega)
  have := ftext_len32 k
  unfold tailT
  rw [List.length_append]
  split <;> split <;> simp only [List.length_cons, List.length_nil] <;> omega
theorem regs_lt (o : Int) : 0 ≤ opRegs o ∧ opRegs o ≤ 3 := by
  unfold opRegs
  repeat' split
  all_goals decide
theorem line_le {x : Ins} (h : x.Full) (hn : x.n ≤ 64) : x.line.length ≤ 50 := by
  have h0 := h.op
  have ha := h.a
  have hb := h.b
  have hc := h.c
  have hn0 := h.n
  have hr := regs_lt x.op
  have e0 : x.op = ((x.op.toNat : Nat) : Int) := by omega
  have e := line_told (x := x) (o := x.op.toNat) (r := (opRegs x.op).toNat) (n := x.n.toNat) (v := fun i => (x.regI i).toNat) e0 (by show x.a = (x.a.toNat : Int); omega) (by show x.b = (x.b.toNat : Int); omega) (by show x.c = (x.c.toNat : Int); omega) (by omega) (by rw [← e0]; omega) (by omega)
  have h1 := opText_len x.op.toNat
  have h2 := regT_le (v := fun i => (x.regI i).toNat) (fun i => by
    rcases i with _ | _ | i
    · show x.a.toNat < 8; omega
    · show x.b.toNat < 8; omega
    · show x.c.toNat < 8; omega) (opRegs x.op).toNat
  have h3 := tailT_le (bn := opN ((x.op.toNat : Nat) : Int)) (bk := opK ((x.op.toNat : Nat) : Int)) (n := x.n.toNat) (k := x.k) (by omega)
  rw [e, List.length_append, List.length_append]
  omega
theorem linesT_le : ∀ (l : List Ins), (∀ x ∈ l, x.Full ∧ x.n ≤ 64) → (linesT l).length ≤ 51 * l.length
  | [], _ => by simp [linesT]
  | x :: l, h => by
    have ih := linesT_le l fun y hy => h y (List.mem_cons_of_mem _ hy)
    have hx := h x (by simp)
    have := line_le hx.1 hx.2
    show ((x.line ++ [10]) ++ linesT l).length ≤ _
    rw [List.length_append, List.length_append, List.length_cons, List.length_nil, List.length_cons]
    omega
theorem headT_le {fuel : Nat} {l : List Ins} (hf : fuel ≤ 1024) (hl : l.length ≤ 64) (h : ∀ x ∈ l, x.Full ∧ x.n ≤ 64) (g : Nat) : (headT fuel l g).length ≤ 4000 := by
  have h1 := dec_len (n := fuel) (k := 3) (by omega)
  have h2 := linesT_le (l.take g) fun x hx => h x (List.mem_of_mem_take hx)
  have h3 : (l.take g).length ≤ 64 := by rw [List.length_take]; omega
  unfold headT
  rw [List.length_append, List.length_append, List.length_cons]
  have : fuelW.length = 5 := rfl
  omega
end Go.Proofs.YtdkencepmdfacaaGreatDoor
