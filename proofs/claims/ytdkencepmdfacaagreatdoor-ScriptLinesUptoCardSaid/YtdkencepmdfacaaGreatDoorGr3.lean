/- A program's text, line by line: plain laws of its readers. An instruction's line, read word by word (plain). Scripts' texts (plain): steps, their lines, numbers and bytes as text. A block of memory known whole (no program in sight). -/
import Derived.Test.YtdkencepmdfacaaGreatDoorQa
import Derived.Test.YtdkencepmdfacaaGreatDoorQb
import Derived.Lib.AtoiAll
import Derived.WalkKit
import Derived.Below
import Derived.Laws.Rows
import Derived.Test.YtdkencepmdfacaaGreatDoorGr1
set_option maxRecDepth 100000
namespace Go.Proofs.YtdkencepmdfacaaGreatDoor
open Ieee

/-- the lines of a text, each with whether it is ended; the flag: is it the first -/
def yl : Bool → List (List UInt8) → List (List UInt8 × Bool)
  | _, [] => []
  | f, [s] => if s = [] ∧ f = false then [] else [(s, false)]
  | _, s :: t :: r => (s, true) :: yl false (t :: r)
/-- a text's reader, line by line -/
def parseY : List (List UInt8 × Bool) → Nat → Nat → List Ins → Int × Nat × Nat × List Ins
  | [], _, fuel, acc => checkRes fuel acc
  | (s, en) :: r, k, fuel, acc =>
    if en = false then (55, k, 0, [])
    else if k = 1 then match fuelOf s with
      | some f => parseY r (k + 1) f acc
      | none => (55, k, 0, [])
    else match readIns s with
      | some x => parseY r (k + 1) fuel (acc ++ [x])
      | none => (55, k, 0, [])
theorem parse_yl : ∀ (ps : List (List UInt8)) (k fuel : Nat) (acc : List Ins), ps ≠ [] → 1 ≤ k → parseL ps k fuel acc = parseY (yl (decide (k = 1)) ps) k fuel acc
  | [], _, _, _, h, _ => absurd rfl h
  | [s], k, fuel, acc, _, h => by
    rw [parseL, yl]
    by_cases hc : s = [] ∧ 1 < k
    · rw [if_pos hc, if_pos ⟨hc.1, decide_eq_false (by omega)⟩, parseY]
    · rw [if_neg hc, if_neg (fun hh => hc ⟨hh.1, by have := of_decide_eq_false hh.2; omega⟩), parseY, if_pos rfl]
  | s :: t :: r, k, fuel, acc, _, h => by
    rw [yl]
    show (if k = 1 then _ else _) = (if true = false then _ else _)
    rw [if_neg (show ¬ true = false by decide)]
    have ih := fun f a => parse_yl (t :: r) (k + 1) f a (by simp) (by omega)
    rw [show decide (k + 1 = 1) = false from decide_eq_false (by omega)] at ih
    by_cases hk : k = 1
    · rw [if_pos hk, if_pos hk]
      cases hf : fuelOf s with
      | none => rfl
      | some f => exact ih _ _
    · rw [if_neg hk, if_neg hk]
      cases hf : readIns s with
      | none => rfl
      | some f => exact ih _ _
theorem parseT_yl (s : List UInt8) : parseT s = parseY (yl true (spl 10 s)) 1 0 [] := by
  unfold parseT
  rw [parse_yl _ 1 0 [] (by obtain ⟨w, ws, e⟩ := spl_cons 10 s; rw [e]; simp) (by omega)]
  rfl
/-- a reader's state behind the lines that have come: the fuel, the instructions -/
def Behind (pre : List (List UInt8 × Bool)) (fuel : Nat) (acc : List Ins) : Prop := (∀ rest, parseY (pre ++ rest) 1 0 [] = parseY rest (pre.length + 1) fuel acc) ∧ acc.length ≤ pre.length ∧ (∀ x ∈ acc, x.k < 2 * signB) ∧ fuel < 1000000000
theorem behind_nil : Behind [] 0 [] := ⟨fun _ => rfl, by simp, by simp, by decide⟩
theorem behind_fuel {s : List UInt8} {f : Nat} (h : fuelOf s = some f) : Behind [(s, true)] f [] := by
  refine ⟨fun rest => ?_, by simp, by simp, ?_⟩
  · show parseY ((s, true) :: rest) 1 0 [] = _
    rw [parseY, if_neg (by decide), if_pos rfl, h]
    rfl
  · unfold fuelOf at h
    split at h
    · have hs := numOf_some h
      exact le_digits 8 f (by rw [← Lib.decDigits_length, hs.1]; exact hs.2)
    · cases h
theorem behind_ins {pre : List (List UInt8 × Bool)} {fuel : Nat} {acc : List Ins} {s : List UInt8} {x : Ins} (hb : Behind pre fuel acc) (hp : pre ≠ []) (h : readIns s = some x) : Behind (pre ++ [(s, true)]) fuel (acc ++ [x]) := by
  have hlen : pre.length ≠ 0 := by simpa using hp
  refine ⟨fun rest => ?_, by simp; have := hb.2.1; omega, fun y hy => ?_, hb.2.2.2⟩
  · rw [List.append_assoc, hb.1]
    show parseY ((s, true) :: rest) _ _ _ = _
    rw [parseY, if_neg (by decide), if_neg (by omega), h]
    simp
  · rcases List.mem_append.1 hy with hy | hy
    · exact hb.2.2.1 y hy
    · rw [List.mem_singleton] at hy
      subst hy
      have := (line_readIns h).1.kb
      exact this
/-- a reader that leaves at a line -/
def Leaves (pre : List (List UInt8 × Bool)) : Prop := ∀ rest, parseY (pre ++ rest) 1 0 [] = (55, pre.length, 0, [])
theorem leaves_open {pre : List (List UInt8 × Bool)} {fuel : Nat} {acc : List Ins} {s : List UInt8} (hb : Behind pre fuel acc) : Leaves (pre ++ [(s, false)]) := fun rest => by
  rw [List.append_assoc, hb.1]
  show parseY ((s, false) :: rest) _ _ _ = _
  rw [parseY, if_pos rfl]
  simp
theorem leaves_fuel {s : List UInt8} {en : Bool} (h : fuelOf s = none) : Leaves [(s, en)] := fun rest => by
  show parseY ((s, en) :: rest) 1 0 [] = _
  rw [parseY]
  split
  · rfl
  · rw [if_pos rfl, h]
    rfl
theorem leaves_ins {pre : List (List UInt8 × Bool)} {fuel : Nat} {acc : List Ins} {s : List UInt8} {en : Bool} (hb : Behind pre fuel acc) (hp : pre ≠ []) (h : readIns s = none) : Leaves (pre ++ [(s, en)]) := fun rest => by
  have hlen : pre.length ≠ 0 := by simpa using hp
  rw [List.append_assoc, hb.1]
  show parseY ((s, en) :: rest) _ _ _ = _
  rw [parseY]
  split
  · simp
  · rw [if_neg (by omega), h]
    simp
theorem fuel_prefix (s : List UInt8) : fuelOf s = if Lib.hasPrefix s fuelW = true then numOf (Lib.trimPrefix s fuelW) else none := by
  have key : Lib.hasPrefix s fuelW = true ↔ s.take 5 = fuelW := by
    unfold Lib.hasPrefix
    rw [List.isPrefixOf_iff_prefix, List.prefix_iff_eq_take]
    exact ⟨fun h => h.symm, fun h => h.symm⟩
  unfold fuelOf Lib.trimPrefix
  by_cases h : s.take 5 = fuelW
  · rw [if_pos h, if_pos (key.2 h), if_pos (key.2 h)]
    rfl
  · rw [if_neg h, if_neg (fun hh => h (key.1 hh))]
/-- one round of the lines' reader -/
theorem yl_step (f : Bool) (l : List UInt8) (h : f = true ∨ l ≠ []) : (spl 10 l = [l] → yl f (spl 10 l) = (l, false) :: yl false (spl 10 [])) ∧ (∀ a b, spl 10 l = a :: spl 10 b → yl f (spl 10 l) = (a, true) :: yl false (spl 10 b)) := by
  constructor
  · intro e
    rw [e, yl, if_neg (fun hh => by rcases h with h | h; exact absurd (h ▸ hh.2) (by decide); exact h hh.1)]
    rfl
  · intro a b e
    obtain ⟨w, ws, e2⟩ := spl_cons 10 b
    rw [e, e2, yl]
theorem yl_end : yl false (spl 10 []) = [] := rfl

/-! ### the document's words -/

/-! ### the document's number and its first line -/
end Go.Proofs.YtdkencepmdfacaaGreatDoor

set_option maxRecDepth 100000
namespace Go.Proofs.YtdkencepmdfacaaGreatDoor
open Ieee

theorem spl_len (c : UInt8) : ∀ (l : List UInt8), ∀ w ∈ spl c l, w.length ≤ l.length
  | [], w, h => by
    have : w = [] := by simpa [spl] using h
    rw [this]; simp
  | x :: l, w, h => by
    have ih := spl_len c l
    obtain ⟨v, vs, e⟩ := spl_cons c l
    unfold spl at h
    split at h
    · rcases List.mem_cons.1 h with rfl | h
      · simp
      · have := ih w h; rw [List.length_cons]; omega
    · rw [e] at h ih
      rcases List.mem_cons.1 h with rfl | h
      · have := ih v (by simp)
        show (v.length + 1) ≤ _
        rw [List.length_cons]; omega
      · have := ih w (List.mem_cons_of_mem _ h)
        rw [List.length_cons]; omega
theorem spl_getD_len (c : UInt8) (l : List UInt8) (j : Nat) : ((spl c l).getD j []).length ≤ l.length := by
  by_cases h : j < (spl c l).length
  · rw [List.getD_eq_getElem?_getD, List.getElem?_eq_getElem h]
    exact spl_len c l _ (List.getElem_mem h)
  · rw [List.getD_eq_getElem?_getD, List.getElem?_eq_none (by omega)]
    simp
theorem spl_ge (c : UInt8) (l : List UInt8) : 1 ≤ (spl c l).length := by
  obtain ⟨w, ws, e⟩ := spl_cons c l
  rw [e]; simp
theorem spl_head (c : UInt8) (l : List UInt8) : (spl c l).headD [] = (spl c l).getD 0 [] := by
  obtain ⟨w, ws, e⟩ := spl_cons c l
  rw [e]; rfl
theorem opOf_hit {g : Nat} {w : List UInt8} (h0 : 1 ≤ g) (h1 : g < 25) (h : opText g = w) : opOf w = g := h ▸ (op_cases h0 h1).1
/-- a register's number, 0 where the word is none -/
def regU (ws : List (List UInt8)) (j : Nat) : Nat := (regOf (ws.getD (1 + j) [])).getD 0
def regX (ws : List (List UInt8)) (i j : Nat) : Nat := if j < i then regU ws j else 0
/-- a line whose op is known and whose words are as many as the op asks -/
def Hits (ws : List (List UInt8)) (o : Nat) : Prop := o ≠ 0 ∧ opOf (ws.headD []) = o ∧ ws.length = opMany o
theorem read_miss {s : List UInt8} {o : Nat} (ho : opOf ((spl 32 s).headD []) = o) (h : ¬ Hits (spl 32 s) o) : readIns s = none := by
  unfold readIns readW
  rw [ho]
  refine if_pos ?_
  by_cases h0 : o = 0
  · exact .inl h0
  · exact .inr fun e => h ⟨h0, ho, e⟩
theorem read_reg {s : List UInt8} {o r i : Nat} (h : Hits (spl 32 s) o) (hr : opRegs (o : Int) = (r : Int)) (h3 : r ≤ 3) (hi : i < r) (hn : regOf ((spl 32 s).getD (1 + i) []) = none) : readIns s = none := by
  unfold readIns readW
  rw [h.2.1, if_neg (fun e => e.elim h.1 fun e => e h.2.2), hr, Int.toNat_natCast]
  have hrg : rg (spl 32 s) r i = none := by unfold rg; rw [if_pos hi, hn]
  rcases i with _ | _ | _ | i
  · rw [hrg]; rfl
  · rw [hrg]; cases rg (spl 32 s) r 0 <;> rfl
  · rw [hrg]; cases rg (spl 32 s) r 0 <;> cases rg (spl 32 s) r 1 <;> rfl
  · omega
theorem read_all {s : List UInt8} {o r : Nat} (h : Hits (spl 32 s) o) (hr : opRegs (o : Int) = (r : Int)) (hok : ∀ j : Nat, j < r → (regOf ((spl 32 s).getD (1 + j) [])).isSome = true) :
    readIns s = readTail (spl 32 s) o r (regX (spl 32 s) r 0) (regX (spl 32 s) r 1) (regX (spl 32 s) r 2) := by
  have key : ∀ j, rg (spl 32 s) r j = some (regX (spl 32 s) r j) := fun j => by
    unfold rg regX
    by_cases hj : j < r
    · rw [if_pos hj, if_pos hj]
      unfold regU
      have := hok j hj
      cases hh : regOf ((spl 32 s).getD (1 + j) []) with
      | none => rw [hh] at this; cases this
      | some n => rfl
    · rw [if_neg hj, if_neg hj]
  unfold readIns readW
  rw [h.2.1, if_neg (fun e => e.elim h.1 fun e => e h.2.2), hr, Int.toNat_natCast, key 0, key 1, key 2]
  rfl
/-- a register's word: two bytes -/
theorem reg_word {w : List UInt8} {u : Nat} (h : regOf w = some u) : ∃ d : UInt8, w = [114, d] ∧ 48 ≤ d.toNat ∧ d.toNat ≤ 55 ∧ u = d.toNat - 48 := by
  unfold regOf at h
  split at h
  · rename_i hc
    injection h with h
    match w, hc with
    | [r, d], hc =>
      obtain ⟨_, h1, h2, h3⟩ := hc
      replace h1 : r = 114 := h1
      exact ⟨d, by rw [h1], h2, h3, h.symm⟩
  · cases h
theorem reg_none {w : List UInt8} (h : regOf w = none) : w.length ≠ 2 ∨ ∃ a d : UInt8, w = [a, d] ∧ (a ≠ 114 ∨ (a = 114 ∧ d.toNat < 48) ∨ (a = 114 ∧ 48 ≤ d.toNat ∧ 56 ≤ d.toNat)) := by
  by_cases hl : w.length = 2
  · match w, hl with
    | [a, d], _ =>
      refine .inr ⟨a, d, rfl, ?_⟩
      by_cases ha : a = 114
      · by_cases h1 : d.toNat < 48
        · exact .inr (.inl ⟨ha, h1⟩)
        · refine .inr (.inr ⟨ha, by omega, ?_⟩)
          refine Classical.byContradiction fun h2 => ?_
          have : regOf [a, d] = some (d.toNat - 48) := if_pos ⟨rfl, ha, by show 48 ≤ d.toNat; omega, by show d.toNat ≤ 55; omega⟩
          rw [this] at h
          cases h
      · exact .inl ha
  · exact .inl hl
theorem opMany_eq (o r : Nat) (hr : opRegs (o : Int) = (r : Int)) : opMany o = 1 + r + (if opN (o : Int) = true ∨ opK (o : Int) = true then 1 else 0) := by
  unfold opMany
  rw [hr, Int.toNat_natCast]
end Go.Proofs.YtdkencepmdfacaaGreatDoor

set_option maxRecDepth 100000
namespace Go.Proofs.YtdkencepmdfacaaGreatDoor
open Ieee

/-- a step -/
structure Stp where
  kind : Int
  a : Int
  k : Int
  x : Int
  text : List UInt8
  deriving DecidableEq, Inhabited
/-! ### bytes as text -/
def hexD (n : Nat) : UInt8 := if n < 10 then UInt8.ofNat (48 + n) else UInt8.ofNat (87 + n)
def unhex (c : UInt8) : Option Nat := if 48 ≤ c.toNat ∧ c.toNat ≤ 57 then some (c.toNat - 48) else if 97 ≤ c.toNat ∧ c.toNat ≤ 102 then some (c.toNat - 87) else none
def hexB (l : List UInt8) : List UInt8 := l.flatMap fun c => [hexD (c.toNat / 16), hexD (c.toNat % 16)]
def hexT (l : List UInt8) : List UInt8 := if l = [] then [45] else hexB l
def rawB : List UInt8 → Option (List UInt8)
  | [] => some []
  | [_] => none
  | x :: y :: r => (unhex x).bind fun a => (unhex y).bind fun b => (rawB r).map fun l => UInt8.ofNat (16 * a + b) :: l
def rawT (s : List UInt8) : Option (List UInt8) := if s = [45] then some [] else if s = [] then none else rawB s
theorem unhex_hex {n : Nat} (h : n < 16) : unhex (hexD n) = some n := by
  have key : ∀ n : Fin 16, unhex (hexD n.val) = some n.val := by decide +kernel
  exact key ⟨n, h⟩
theorem hex_unhex {c : UInt8} {n : Nat} (h : unhex c = some n) : hexD n = c ∧ n < 16 := by
  unfold unhex at h
  split at h
  · rename_i hc
    injection h with h
    subst h
    refine ⟨?_, by omega⟩
    unfold hexD
    rw [if_pos (by omega), show 48 + (c.toNat - 48) = c.toNat by omega, UInt8.ofNat_toNat]
  · split at h
    · rename_i h1 hc
      injection h with h
      subst h
      refine ⟨?_, by omega⟩
      unfold hexD
      rw [if_neg (by omega), show 87 + (c.toNat - 87) = c.toNat by omega, UInt8.ofNat_toNat]
    · cases h
theorem hexB_cons (c : UInt8) (l : List UInt8) : hexB (c :: l) = hexD (c.toNat / 16) :: hexD (c.toNat % 16) :: hexB l := rfl
theorem rawB_hex : ∀ l : List UInt8, rawB (hexB l) = some l
  | [] => rfl
  | c :: l => by
    have hc := UInt8.toNat_lt c
    rw [hexB_cons, rawB, unhex_hex (by omega), unhex_hex (by omega), rawB_hex l]
    simp only [Option.bind_some, Option.map_some]
    rw [show 16 * (c.toNat / 16) + c.toNat % 16 = c.toNat by omega, UInt8.ofNat_toNat]
theorem hex_rawB : ∀ (s l : List UInt8), rawB s = some l → hexB l = s
  | [], l, h => by
    rw [rawB] at h
    injection h with h
    rw [← h]; rfl
  | [x], l, h => by rw [rawB] at h; cases h
  | x :: y :: r, l, h => by
    rw [rawB] at h
    cases hx : unhex x with
    | none => rw [hx] at h; cases h
    | some a =>
      cases hy : unhex y with
      | none => rw [hx, hy] at h; cases h
      | some b =>
        cases hr : rawB r with
        | none => rw [hx, hy, hr] at h; cases h
        | some m =>
          rw [hx, hy, hr] at h
          simp only [Option.bind_some, Option.map_some] at h
          injection h with h
          obtain ⟨e1, e2⟩ := hex_unhex hx
          obtain ⟨e3, e4⟩ := hex_unhex hy
          subst h
          rw [hexB_cons, hex_rawB r m hr, UInt8.toNat_ofNat']
          rw [show (16 * a + b) % 2 ^ 8 = 16 * a + b by omega, show (16 * a + b) / 16 = a by omega, show (16 * a + b) % 16 = b by omega, e1, e3]
theorem rawT_hex (l : List UInt8) : rawT (hexT l) = some l := by
  unfold rawT hexT
  by_cases h : l = []
  · subst h; rfl
  · rw [if_neg h, if_neg, if_neg, rawB_hex]
    · intro e
      cases l with
      | nil => exact h rfl
      | cons c l => rw [hexB_cons] at e; have e2 := congrArg List.length e; simp at e2
    · intro e
      cases l with
      | nil => exact h rfl
      | cons c l => rw [hexB_cons] at e; have e2 := congrArg List.length e; simp at e2
theorem hex_rawT {s l : List UInt8} (h : rawT s = some l) : hexT l = s := by
  unfold rawT at h
  split at h
  · rename_i h1
    injection h with h
    rw [← h, h1]; rfl
  · split at h
    · cases h
    · rename_i h1 h2
      have e := hex_rawB s l h
      unfold hexT
      rw [if_neg, e]
      intro e2
      subst e2
      exact h2 e.symm
theorem hexT_len (l : List UInt8) : (hexT l).length ≤ 2 * l.length + 1 := by
  unfold hexT
  split
  · simp
  · have : ∀ m : List UInt8, (hexB m).length = 2 * m.length := fun m => by
      induction m with
      | nil => rfl
      | cons c m ih => rw [hexB_cons]; simp [ih]; omega
    rw [this]; omega
theorem hexD_clean {n : Nat} (h : n < 16) : (48 ≤ (hexD n).toNat ∧ (hexD n).toNat ≤ 57) ∨ (97 ≤ (hexD n).toNat ∧ (hexD n).toNat ≤ 102) := by
  have key : ∀ n : Fin 16, (48 ≤ (hexD n.val).toNat ∧ (hexD n.val).toNat ≤ 57) ∨ (97 ≤ (hexD n.val).toNat ∧ (hexD n.val).toNat ≤ 102) := by decide +kernel
  exact key ⟨n, h⟩
theorem hexT_clean (l : List UInt8) : ∀ c ∈ hexT l, c ≠ 32 ∧ c ≠ 10 := by
  have key : ∀ m : List UInt8, ∀ c ∈ hexB m, c ≠ 32 ∧ c ≠ 10 := fun m => by
    induction m with
    | nil => intro c hc; cases hc
    | cons d m ih =>
      intro c hc
      have hd := UInt8.toNat_lt d
      rw [hexB_cons] at hc
      have one : ∀ n, n < 16 → hexD n ≠ 32 ∧ hexD n ≠ 10 := fun n hn => by
        have h := hexD_clean hn
        constructor
        · intro e; rw [e] at h; revert h; decide
        · intro e; rw [e] at h; revert h; decide
      rcases List.mem_cons.1 hc with rfl | hc
      · exact one _ (by omega)
      rcases List.mem_cons.1 hc with rfl | hc
      · exact one _ (by omega)
      · exact ih c hc
  intro c hc
  unfold hexT at hc
  split at hc
  · rw [List.mem_singleton] at hc
    subst hc
    decide
  · exact key l c hc

/-! ### kinds -/
def stWord : Nat → List UInt8
  | 1 => [98, 121, 116, 101, 115] | 2 => [116, 105, 99, 107] | 3 => [115, 116, 101, 112] | 4 => [100, 101, 108, 105, 118, 101, 114] | 5 => [100, 114, 111, 112] | 6 => [100, 117, 112] | 7 => [105, 110, 106, 101, 99, 116]
  | 8 => [99, 114, 97, 115, 104] | 9 => [115, 116, 97, 114, 116] | 10 => [99, 117, 116] | 11 => [114, 111, 117, 110, 100] | 12 => [115, 101, 116, 116, 108, 101] | _ => []
def stA (k : Int) : Bool := k == 2 || k == 3 || k == 7 || k == 8 || k == 9
def stK (k : Int) : Bool := k == 4 || k == 5 || k == 6 || k == 9 || k == 10 || k == 12
def stX (k : Int) : Bool := k == 9 || k == 10
def stT (k : Int) : Bool := k == 1 || k == 7
/-- a step with the fields of its kind alone -/
def Stp.only (s : Stp) : Stp := ⟨s.kind, if stA s.kind then s.a else 0, if stK s.kind then s.k else 0, if stX s.kind then s.x else 0, if stT s.kind then s.text else []⟩
def Stp.okKind (s : Stp) : Prop := 1 ≤ s.kind ∧ s.kind ≤ 12 ∧ s.only = s
instance (s : Stp) : Decidable s.okKind := by unfold Stp.okKind; infer_instance
def w64 (n : Int) : Prop := -9223372036854775808 ≤ n ∧ n ≤ 9223372036854775807
/-! ### lines -/
def Stp.nums (s : Stp) : List Int := (if stA s.kind then [s.a] else []) ++ (if stK s.kind then [s.k] else []) ++ (if stX s.kind then [s.x] else [])
def Stp.words (s : Stp) : List (List UInt8) := stWord s.kind.toNat :: (s.nums.map Lib.itoa ++ (if stT s.kind then [hexT s.text] else []))
/-- a text's line feeds as '; ' -/
def semi (l : List UInt8) : List UInt8 := l.flatMap fun c => if c = 10 then [59, 32] else [c]
def unsemi : List UInt8 → List UInt8
  | [] => []
  | [c] => [c]
  | c :: d :: r => if c = 59 ∧ d = 32 then 10 :: unsemi r else c :: unsemi (d :: r)
def subW : List UInt8 := [115, 117, 98, 109, 105, 116, 32]
def Stp.isProg (s : Stp) : Prop := s.kind = 1 ∧ (unpackP s.text).1 = 0
instance (s : Stp) : Decidable s.isProg := by unfold Stp.isProg; infer_instance
/-- a step's line -/
def Stp.line (s : Stp) : List UInt8 := if s.isProg then subW ++ semi (progText (unpackP s.text).2.1 (unpackP s.text).2.2).dropLast else joinW 32 s.words
/-- the number of a word -/
def numZ (s : List UInt8) : Option Int := match Lib.atoiAll s with
  | .ok v => if Lib.itoa v = s then some v else none
  | _ => none
/-- the program behind a submit -/
def readSub (r : List UInt8) : Option Stp := if (parseT (unsemi r ++ [10])).1 = 0 then some ⟨1, 0, 0, 0, progB (parseT (unsemi r ++ [10])).2.2.1 (parseT (unsemi r ++ [10])).2.2.2⟩ else none
/-- the kind of a word; 0: there is none -/
def kindOf (w : List UInt8) : Nat := ((List.range 13).find? fun o => decide (0 < o) && decide (stWord o = w)).getD 0
def fieldsN (k : Int) : Nat := (if stA k then 1 else 0) + (if stK k then 1 else 0) + (if stX k then 1 else 0)
def stMany (k : Int) : Nat := 1 + fieldsN k + (if stT k then 1 else 0)
/-- a field's number: it is named, and stands behind so many words -/
def fieldAt (w : List (List UInt8)) (is : Bool) (j : Nat) : Option Int := if is then numZ (w.getD j []) else some 0
def readFields (w : List (List UInt8)) (k : Int) : Option Stp :=
  (fieldAt w (stA k) 1).bind fun a => (fieldAt w (stK k) (1 + (if stA k then 1 else 0))).bind fun kk => (fieldAt w (stX k) (1 + (if stA k then 1 else 0) + (if stK k then 1 else 0))).bind fun x =>
    (if stT k then rawT (w.getD (1 + fieldsN k) []) else some []).map fun t => ⟨k, a, kk, x, t⟩
def readWords (w : List (List UInt8)) : Option Stp :=
  if kindOf (w.headD []) = 0 ∨ w.length ≠ stMany (kindOf (w.headD [])) then none
  else (readFields w (kindOf (w.headD []))).bind fun s => if s.isProg then none else some s
/-- the step of a line -/
def readStp (s : List UInt8) : Option Stp := if s.take 7 = subW then readSub (s.drop 7) else readWords (spl 32 s)
end Go.Proofs.YtdkencepmdfacaaGreatDoor

set_option maxRecDepth 100000
namespace Go.Proofs.YtdkencepmdfacaaGreatDoor
open Go.RowKit

theorem lt_of_block {w : World} {g : Nat} {o : Obj} (h : w.heap[g]? = some o) : g < w.heap.size := by
  rcases Nat.lt_or_ge g w.heap.size with h1 | h1
  · exact h1
  · rw [Array.getElem?_eq_none h1] at h
    cases h
def Cells (w : World) (g : Nat) (t : TypeId) (c : Array Value) : Prop := w.heap[g]? = some (.cells c t (0, 0))

section
variable {w w' : World} {g : Nat} {t : TypeId} {c : Array Value}
theorem Cells.lt (h : Cells w g t c) : g < w.heap.size := lt_of_block h
theorem Cells.cell (h : Cells w g t c) {j : Nat} {v : Value} (hj : c[j]? = some v) : w.cell? ⟨g, j, none⟩ = some v := by
  unfold Cells at h
  simp [World.cell?, h, hj]
theorem Cells.fz (h : Cells w g t c) (j : Nat) : w.frozen? ⟨g, j, none⟩ = false := by
  unfold Cells at h
  simp [World.frozen?, h]
theorem Cells.set (h : Cells w g t c) (j : Nat) (v : Value) : Cells (w.setCell ⟨g, j, none⟩ v) g t (c.setIfInBounds j v) := by
  unfold Cells at h ⊢
  simp [World.setCell, Array.getElem?_modify, h]
theorem Cells.far (h : Cells w g t c) {a : Addr} (ha : g ≠ a.block) (u : Value) : Cells (w.setCell a u) g t c := (Below.heap_setCell w a u g ha).trans h
theorem Cells.alloc (h : Cells w g t c) (o : Obj) : Cells (w.alloc o) g t c := (Below.heap_alloc w o g h.lt).trans h
theorem Cells.grown {row : Option Nat} (h : Cells w g t c) (hb : w.grownBy w' row) (hg : some g ≠ row) : Cells w' g t c := (hb.block g h.lt hg).trans h
theorem Cells.below {k : Nat} (h : Cells w g t c) (hb : Below k w w') (hg : g < k) : Cells w' g t c := (hb.block g hg).trans h
theorem Cells.keep (h : Cells w g t c) (hb : Below w.heap.size w w') : Cells w' g t c := (hb.block g h.lt).trans h
theorem Cells.drewN (h : Cells w g t c) (n : Nat) : Cells (w.drewN n) g t c := h
theorem Cells.drew (h : Cells w g t c) : Cells w.drew g t c := h
theorem Cells.new (w : World) (t : TypeId) (c : Array Value) : Cells (w.alloc (.cells c t)) w.heap.size t c := heap_alloc_new w _
theorem Cells.newAt (w : World) (t : TypeId) (c : Array Value) (n : Nat) (h : n = w.heap.size) : Cells (w.alloc (.cells c t)) n t c := by
  subst h
  exact Cells.new w t c

end
theorem grow_to {a b c : World} (h : Below a.heap.size a b) (k : Below b.heap.size b c) : Below a.heap.size a c :=
  ⟨k.os.trans h.os, k.tape.trans h.tape, k.output.trans h.output, Nat.le_trans h.size k.size, fun i hi => (k.block i (Nat.lt_of_lt_of_le hi h.size)).trans (h.block i hi)⟩
end Go.Proofs.YtdkencepmdfacaaGreatDoor
