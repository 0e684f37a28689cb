/- A program's text, line by line: plain laws of its readers. -/
import Derived.Test.YtiidkgdlngcpgaaGreatDoorQa
set_option maxRecDepth 100000
namespace Go.Proofs.YtiidkgdlngcpgaaGreatDoor
open Ieee

/-- the lines of a text, each with whether it is ended; the flag: is it the first -/
def yl : Bool → List (List UInt8) → List (List UInt8 × Bool)
  | _, [] => []
  | f, [s] => if s = [] ∧ f = false then [] else [(s, false)]
  | _, s :: t :: r => (s, true) :: yl false (t :: r)
/-- a text's reader, line by line -/
def parseY : List (List UInt8 × Bool) → Nat → Nat → List Ins → Int × Nat × Nat × List Ins
  | [], _, fuel, acc => checkRes fuel acc
  | (s, en) :: r, k, fuel, acc =>
    if en = false then (55, k, 0, [])
    else if k = 1 then match fuelOf s with
      | some f => parseY r (k + 1) f acc
      | none => (55, k, 0, [])
    else match readIns s with
      | some x => parseY r (k + 1) fuel (acc ++ [x])
      | none => (55, k, 0, [])
theorem parse_yl : ∀ (ps : List (List UInt8)) (k fuel : Nat) (acc : List Ins), ps ≠ [] → 1 ≤ k → parseL ps k fuel acc = parseY (yl (decide (k = 1)) ps) k fuel acc
  | [], _, _, _, h, _ => absurd rfl h
  | [s], k, fuel, acc, _, h => by
    rw [parseL, yl]
    by_cases hc : s = [] ∧ 1 < k
    · rw [if_pos hc, if_pos ⟨hc.1, decide_eq_false (by omega)⟩, parseY]
    · rw [if_neg hc, if_neg (fun hh => hc ⟨hh.1, by have := of_decide_eq_false hh.2; omega⟩), parseY, if_pos rfl]
  | s :: t :: r, k, fuel, acc, _, h => by
    rw [yl]
    show (if k = 1 then _ else _) = (if true = false then _ else _)
    rw [if_neg (show ¬ true = false by decide)]
    have ih := fun f a => parse_yl (t :: r) (k + 1) f a (by simp) (by omega)
    rw [show decide (k + 1 = 1) = false from decide_eq_false (by omega)] at ih
    by_cases hk : k = 1
    · rw [if_pos hk, if_pos hk]
      cases hf : fuelOf s with
      | none => rfl
      | some f => exact ih _ _
    · rw [if_neg hk, if_neg hk]
      cases hf : readIns s with
      | none => rfl
      | some f => exact ih _ _
theorem parseT_yl (s : List UInt8) : parseT s = parseY (yl true (spl 10 s)) 1 0 [] := by
  unfold parseT
  rw [parse_yl _ 1 0 [] (by obtain ⟨w, ws, e⟩ := spl_cons 10 s; rw [e]; simp) (by omega)]
  rfl
/-- a reader's state behind the lines that have come: the fuel, the instructions -/
def Behind (pre : List (List UInt8 × Bool)) (fuel : Nat) (acc : List Ins) : Prop := (∀ rest, parseY (pre ++ rest) 1 0 [] = parseY rest (pre.length + 1) fuel acc) ∧ acc.length ≤ pre.length ∧ (∀ x ∈ acc, x.k < 2 * signB) ∧ fuel < 1000000000
theorem behind_nil : Behind [] 0 [] := ⟨fun _ => rfl, by simp, by simp, by decide⟩
theorem behind_fuel {s : List UInt8} {f : Nat} (h : fuelOf s = some f) : Behind [(s, true)] f [] := by
  refine ⟨fun rest => ?_, by simp, by simp, ?_⟩
  · show parseY ((s, true) :: rest) 1 0 [] = _
    rw [parseY, if_neg (by decide), if_pos rfl, h]
    rfl
  · unfold fuelOf at h
    split at h
    · have hs := numOf_some h
      exact le_digits 8 f (by rw [← Lib.decDigits_length, hs.1]; exact hs.2)
    · cases h
theorem behind_ins {pre : List (List UInt8 × Bool)} {fuel : Nat} {acc : List Ins} {s : List UInt8} {x : Ins} (hb : Behind pre fuel acc) (hp : pre ≠ []) (h : readIns s = some x) : Behind (pre ++ [(s, true)]) fuel (acc ++ [x]) := by
  have hlen : pre.length ≠ 0 := by simpa using hp
  refine ⟨fun rest => ?_, by simp; have := hb.2.1; omega, fun y hy => ?_, hb.2.2.2⟩
  · rw [List.append_assoc, hb.1]
    show parseY ((s, true) :: rest) _ _ _ = _
    rw [parseY, if_neg (by decide), if_neg (by omega), h]
    simp
  · rcases List.mem_append.1 hy with hy | hy
    · exact hb.2.2.1 y hy
    · rw [List.mem_singleton] at hy
      subst hy
      have := (line_readIns h).1.kb
      exact this
/-- a reader that leaves at a line -/
def Leaves (pre : List (List UInt8 × Bool)) : Prop := ∀ rest, parseY (pre ++ rest) 1 0 [] = (55, pre.length, 0, [])
theorem leaves_open {pre : List (List UInt8 × Bool)} {fuel : Nat} {acc : List Ins} {s : List UInt8} (hb : Behind pre fuel acc) : Leaves (pre ++ [(s, false)]) := fun rest => by
  rw [List.append_assoc, hb.1]
  show parseY ((s, false) :: rest) _ _ _ = _
  rw [parseY, if_pos rfl]
  simp
theorem leaves_fuel {s : List UInt8} {en : Bool} (h : fuelOf s = none) : Leaves [(s, en)] := fun rest => by
  show parseY ((s, en) :: rest) 1 0 [] = _
  rw [parseY]
  split
  · rfl
  · rw [if_pos rfl, h]
    rfl
theorem leaves_ins {pre : List (List UInt8 × Bool)} {fuel : Nat} {acc : List Ins} {s : List UInt8} {en : Bool} (hb : Behind pre fuel acc) (hp : pre ≠ []) (h : readIns s = none) : Leaves (pre ++ [(s, en)]) := fun rest => by
  have hlen : pre.length ≠ 0 := by simpa using hp
  rw [List.append_assoc, hb.1]
  show parseY ((s, en) :: rest) _ _ _ = _
  rw [parseY]
  split
  · simp
  · rw [if_neg (by omega), h]
    simp
theorem fuel_prefix (s : List UInt8) : fuelOf s = if Lib.hasPrefix s fuelW = true then numOf (Lib.trimPrefix s fuelW) else none := by
  have key : Lib.hasPrefix s fuelW = true ↔ s.take 5 = fuelW := by
    unfold Lib.hasPrefix
    rw [List.isPrefixOf_iff_prefix, List.prefix_iff_eq_take]
    exact ⟨fun h => h.symm, fun h => h.symm⟩
  unfold fuelOf Lib.trimPrefix
  by_cases h : s.take 5 = fuelW
  · rw [if_pos h, if_pos (key.2 h), if_pos (key.2 h)]
    rfl
  · rw [if_neg h, if_neg (fun hh => h (key.1 hh))]
/-- one round of the lines' reader -/
theorem yl_step (f : Bool) (l : List UInt8) (h : f = true ∨ l ≠ []) : (spl 10 l = [l] → yl f (spl 10 l) = (l, false) :: yl false (spl 10 [])) ∧ (∀ a b, spl 10 l = a :: spl 10 b → yl f (spl 10 l) = (a, true) :: yl false (spl 10 b)) := by
  constructor
  · intro e
    rw [e, yl, if_neg (fun hh => by rcases h with h | h; exact absurd (h ▸ hh.2) (by decide); exact h hh.1)]
    rfl
  · intro a b e
    obtain ⟨w, ws, e2⟩ := spl_cons 10 b
    rw [e, e2, yl]
theorem yl_end : yl false (spl 10 []) = [] := rfl

/-! ### the document's words -/
/-- the words' reader: what lies behind the place i, the word under way from `from_` -/
theorem spl_go (c : UInt8) : ∀ (s w : List UInt8), c ∉ w → spl c (w ++ s) = (w ++ (spl c s).headD []) :: (spl c s).tail
  | [], w, h => by
    rw [List.append_nil, spl_none h]
    simp [spl]
  | x :: s, w, h => by
    by_cases hx : x = c
    · subst hx
      rw [spl_app _ h]
      have e : spl x (x :: s) = [] :: spl x s := spl_app (w := []) s (by simp)
      rw [e]
      simp
    · have h2 : c ∉ w ++ [x] := by
        intro hh
        rcases List.mem_append.1 hh with hh | hh
        · exact h hh
        · rw [List.mem_singleton] at hh
          exact hx hh.symm
      have ih := spl_go c s (w ++ [x]) h2
      rw [List.append_assoc] at ih
      show spl c (w ++ ([x] ++ s)) = _
      rw [ih]
      have ih2 := spl_go c s [x] (by intro hh; rw [List.mem_singleton] at hh; exact hx hh.symm)
      show _ = (w ++ (spl c ([x] ++ s)).headD []) :: (spl c ([x] ++ s)).tail
      rw [ih2]
      simp

/-! ### the document's number and its first line -/
def nval (l : List UInt8) : Nat := l.foldl (fun a c => 10 * a + c.toNat % 16) 0
theorem nval_snoc (l : List UInt8) (c : UInt8) : nval (l ++ [c]) = 10 * nval l + c.toNat % 16 := by simp [nval]
theorem nval_le : ∀ (l : List UInt8), nval l + 2 ≤ 2 * 10 ^ l.length := by
  intro l
  induction hn : l.length generalizing l with
  | zero => rw [List.length_eq_zero_iff.1 hn]; decide
  | succ n ih =>
    rcases List.eq_nil_or_concat l with e | ⟨m, c, e⟩
    · rw [e] at hn; cases hn
    · rw [List.concat_eq_append] at e
      subst e
      have h := ih m (by simpa using hn)
      have h16 : c.toNat % 16 < 16 := Nat.mod_lt _ (by decide)
      have hp : 1 ≤ 10 ^ n := Nat.pow_pos (by decide)
      rw [nval_snoc, Nat.pow_succ]
      omega
theorem nval_dig (l : List UInt8) (h : l.all isDig = true) : nval l = dval l := by
  unfold nval dval dvalFrom
  have key : ∀ (l : List UInt8) (a : Nat), l.all isDig = true → l.foldl (fun a c => 10 * a + c.toNat % 16) a = l.foldl (fun a c => 10 * a + (c.toNat - 48)) a := by
    intro l
    induction l with
    | nil => intro a _; rfl
    | cons c l ih =>
      intro a h
      rw [List.all_cons, Bool.and_eq_true] at h
      have := dig_range h.1
      rw [List.foldl_cons, List.foldl_cons, show c.toNat % 16 = c.toNat - 48 by omega]
      exact ih _ h.2
  exact key l 0 h
theorem num_told (s : List UInt8) : numOf s = if s.length ≤ 9 ∧ Lib.decDigits (nval (s.take 10)) = s then some (nval (s.take 10)) else none := by
  by_cases h : s.length ≤ 9 ∧ Lib.decDigits (nval (s.take 10)) = s
  · rw [if_pos h]
    have := numOf_dec (n := nval (s.take 10)) (by rw [h.2]; exact h.1)
    rw [h.2] at this
    exact this
  · rw [if_neg h]
    cases hn : numOf s with
    | none => rfl
    | some m =>
      exfalso
      have hs := numOf_some hn
      apply h
      refine ⟨hs.2, ?_⟩
      unfold numOf at hn
      split at hn
      · rename_i hc
        injection hn with hn
        rw [List.take_of_length_le (by omega), nval_dig s (canon_digs hc.2).1, hn]
        exact hs.1
      · cases hn
theorem num_blank {r : List UInt8} (h : 32 ∈ r) : numOf r = none := by
  cases hn : numOf r with
  | none => rfl
  | some m =>
    exfalso
    have hs := numOf_some hn
    rw [← hs.1] at h
    exact (dec_clean m 32 h).1 rfl
theorem fuel_words (s : List UInt8) : fuelOf s = if (spl 32 s).length = 2 ∧ (spl 32 s).getD 0 [] = [102, 117, 101, 108] then numOf ((spl 32 s).getD 1 []) else none := by
  by_cases hs : s.take 5 = fuelW
  · have e : s = [102, 117, 101, 108] ++ 32 :: s.drop 5 := by
      conv => lhs; rw [← List.take_append_drop 5 s, hs]
      rfl
    have hf : fuelOf s = numOf (s.drop 5) := by unfold fuelOf; rw [if_pos hs]
    rw [hf]
    generalize s.drop 5 = r at *
    rw [e, spl_app r (by decide)]
    by_cases hr : 32 ∈ r
    · rw [num_blank hr]
      have hl : (spl 32 r).length ≠ 1 := by
        intro h1
        obtain ⟨w, ws, e2⟩ := spl_cons 32 r
        rw [e2] at h1
        have hw : ws = [] := by simpa using h1
        have hj := spl_join 32 r
        rw [e2, hw] at hj
        have hno := spl_no (c := 32) r w (by rw [e2]; simp)
        have : w = r := hj
        exact hno (this ▸ hr)
      rw [if_neg (fun hh => hl (by have := hh.1; simp at this; exact this))]
    · rw [spl_none hr]
      rw [if_pos ⟨rfl, rfl⟩]
      rfl
  · have hf : fuelOf s = none := by unfold fuelOf; rw [if_neg hs]
    rw [hf]
    split
    · rename_i hc
      exfalso
      apply hs
      have hj := spl_join 32 s
      match hp : spl 32 s, hc with
      | [a, b], hc =>
        rw [hp] at hj
        have ha : a = [102, 117, 101, 108] := hc.2
        have : a ++ 32 :: b = s := hj
        rw [← this, ha]
        rfl
    · rfl
end Go.Proofs.YtiidkgdlngcpgaaGreatDoor
