/- What the document's Parse reads of a text: the digits that it begins with, and their number, which stays small (plain). fparse in the document's order: what is read behind the sign, and behind the 'p' (plain). The document's run (contract): the digits that a text begins with, and their number. The document's text of a number (contracts of taken, Digits, Text). Whole numbers of 128 bits in two words, plain: shifts, sums, differences. Floats, plain: what the loops of the document's package count: lengths, products, quotients. The document's whole numbers of 128 bits: what its methods answer (contracts). The document's package of numbers: lengths, amounts taken apart, products, quotients (contracts). The document's 'rounded': a number of 128 bits and an exponent, rounded to the nearest number (contract). The document's product of two numbers of 64 bits (contract). The document's quotient of a number of 128 bits by one of 53 (contract). The document's Parse (contract): it answers 'fparse'. -/
import Derived.Test.YtiidkgdlngcpgaaGreatDoorJc
import Derived.Test.YtiidkgdlngcpgaaGreatDoorNumParse2
import Derived.BigQuiet
import Derived.Deep.QuietTactic
import Derived.Test.YtiidkgdlngcpgaaGreatDoorNumTabs
import Derived.Laws.BitsAllLaws
import Derived.Test.YtiidkgdlngcpgaaGreatDoorFl
import Derived.Test.YtiidkgdlngcpgaaGreatDoorNb
import Derived.Deep.RegionHeld3
import Derived.Test.YtiidkgdlngcpgaaGreatDoorNumOps
import Derived.Deep.LoopGhost
import Derived.Test.YtiidkgdlngcpgaaGreatDoorKcell
import Derived.Deep.DeepCutAuto
import Derived.Deep.RegionWith
set_option maxRecDepth 100000
namespace Go.Proofs.YtiidkgdlngcpgaaGreatDoor
open Ieee

def satStep (a : Nat) (c : UInt8) : Nat := if a < 288230376151711744 then 10 * a + (c.toNat - 48) else 4611686018427387904
def satFrom (a : Nat) (l : List UInt8) : Nat := l.foldl satStep a
def sat (l : List UInt8) : Nat := satFrom 0 l
theorem sat_snoc (l : List UInt8) (c : UInt8) : sat (l ++ [c]) = satStep (sat l) c := by
  unfold sat satFrom
  rw [List.foldl_append]
  rfl
theorem satStep_le (a : Nat) (c : UInt8) : satStep a c ≤ 4611686018427387904 := by
  unfold satStep
  have := c.toNat_lt
  split <;> omega
theorem satFrom_le : ∀ (l : List UInt8) (a : Nat), a ≤ 4611686018427387904 → satFrom a l ≤ 4611686018427387904
  | [], a, h => h
  | c :: l, a, _ => satFrom_le l (satStep a c) (satStep_le a c)
theorem sat_le (l : List UInt8) : sat l ≤ 4611686018427387904 := satFrom_le l 0 (by decide)
theorem sat_from : ∀ (l : List UInt8) (a b : Nat), (a = b ∨ (288230376151711744 ≤ a ∧ 288230376151711744 ≤ b)) → (satFrom a l = dvalFrom b l ∨ (288230376151711744 ≤ satFrom a l ∧ 288230376151711744 ≤ dvalFrom b l))
  | [], a, b, h => by
    rw [dvalFrom_nil]
    exact h
  | c :: l, a, b, h => by
    rw [dvalFrom_cons]
    refine sat_from l (satStep a c) (10 * b + (c.toNat - 48)) ?_
    unfold satStep
    split <;> omega
theorem sat_or (l : List UInt8) : sat l = dval l ∨ (288230376151711744 ≤ sat l ∧ 288230376151711744 ≤ dval l) := sat_from l 0 0 (.inl rfl)

def lead : List UInt8 → Nat
  | [] => 0
  | c :: l => if isDig c = true then lead l + 1 else 0
theorem lead_le : ∀ (l : List UInt8), lead l ≤ l.length
  | [] => Nat.le_refl _
  | c :: l => by
    have := lead_le l
    rw [lead, List.length_cons]
    split <;> omega
theorem lead_all : ∀ (l : List UInt8), (l.take (lead l)).all isDig = true
  | [] => rfl
  | c :: l => by
    have := lead_all l
    rw [lead]
    by_cases h : isDig c = true
    · rw [if_pos h, List.take_succ_cons, List.all_cons, h, this]
      rfl
    · rw [if_neg h]
      rfl
theorem lead_stop : ∀ (l : List UInt8) (h : lead l < l.length), isDig (l[lead l]'h) = false
  | [], h => absurd h (Nat.not_lt_zero _)
  | c :: l, h => by
    by_cases k : isDig c = true
    · have e : lead (c :: l) = lead l + 1 := by rw [lead, if_pos k]
      have h2 : lead l < l.length := by
        rw [e, List.length_cons] at h
        omega
      have := lead_stop l h2
      simp only [e, List.getElem_cons_succ]
      exact this
    · have e : lead (c :: l) = 0 := by rw [lead, if_neg k]
      simp only [e, List.getElem_cons_zero]
      exact Bool.eq_false_iff.2 k
theorem lead_is : ∀ (l : List UInt8) (n : Nat), n ≤ l.length → (l.take n).all isDig = true → (∀ h : n < l.length, isDig (l[n]'h) = false) → lead l = n
  | [], n, h, _, _ => by
    rw [lead]
    exact (Nat.le_zero.1 h).symm
  | c :: l, 0, _, _, hs => by
    have := hs (Nat.succ_pos _)
    rw [lead, if_neg]
    rw [List.getElem_cons_zero] at this
    rw [this]
    decide
  | c :: l, n + 1, h, ha, hs => by
    rw [List.take_succ_cons, List.all_cons, Bool.and_eq_true] at ha
    rw [lead, if_pos ha.1, lead_is l n (by rw [List.length_cons] at h; omega) ha.2 (fun k => by
      have := hs (by rw [List.length_cons]; omega)
      rw [List.getElem_cons_succ] at this
      exact this)]
theorem canon_take {l : List UInt8} {j : Nat} (hj : j ≤ l.length) (ha : (l.take j).all isDig = true) : canonB (l.take j) = (decide (j = 1) || (decide (1 < j) && decide ((l.getD 0 0).toNat ≠ 48))) := by
  unfold canonB
  rw [ha, Bool.true_and]
  match j, l, hj with
  | 0, l, _ => simp
  | 1, c :: l, _ =>
    by_cases h : c = 48
    · simp [h]
    · have : c.toNat ≠ 48 := fun e => h (UInt8.toNat_inj.1 e)
      simp [this]
  | j + 2, c :: d :: l, _ =>
    simp

/-- the text's first part: digits, an odd number, and a 'p' behind it -/
theorem head_ok {t : List UInt8} (h : lead t < t.length) (hp : t[lead t]'h = 112) : Lib.indexByte t 112 = (lead t : Int) := by
  have h1 := digs_no (lead_all t) (c := 112) (by decide)
  have h2 : t = t.take (lead t) ++ 112 :: t.drop (lead t + 1) := by
    rw [← hp, List.getElem_cons_drop, List.take_append_drop]
  have h3 := (index_at (a := t.take (lead t)) (b := t.drop (lead t + 1)) h1).1
  rw [← h2, List.length_take] at h3
  rw [h3]
  congr 1
  omega
theorem head_no {t : List UInt8} {i : Nat} (hi : Lib.indexByte t 112 = (i : Int)) (hlt : i < t.length) (ht : t = t.take i ++ 112 :: t.drop (i + 1)) (ha : (t.take i).all isDig = true) : lead t = i ∧ t[i]'hlt = 112 := by
  have h1 : t[i]'hlt = 112 := by
    have h2 : (t.take i ++ 112 :: t.drop (i + 1))[i]? = some 112 := by
      rw [List.getElem?_append_right (by rw [List.length_take]; omega), List.length_take, show i - min i t.length = 0 by omega]
      rfl
    rw [← ht, List.getElem?_eq_getElem hlt] at h2
    exact Option.some.inj h2
  refine ⟨lead_is t i (Nat.le_of_lt hlt) ha fun h => ?_, h1⟩
  rw [h1]
  decide
end Go.Proofs.YtiidkgdlngcpgaaGreatDoor

namespace Go.Proofs.YtiidkgdlngcpgaaGreatDoor
open Ieee

def tailV (sg : Bool) (t : List UInt8) : Nat × Int := if Lib.indexByte t 112 < 0 then (0, 10) else fparse.fparse2 sg (t.take (Lib.indexByte t 112).toNat) (t.drop ((Lib.indexByte t 112).toNat + 1))
theorem fparse_tail {l : List UInt8} (h0 : l ≠ [110, 97, 110]) (h1 : l ≠ [105, 110, 102]) (h2 : l ≠ [45, 105, 110, 102]) (h3 : l ≠ [48]) (h4 : l ≠ [45, 48]) : fparse l = tailV (Lib.hasPrefix l [45]) (Lib.trimPrefix l [45]) := by
  unfold fparse tailV
  rw [if_neg h0, if_neg h1, if_neg h2, if_neg h3, if_neg h4]
theorem strip_other {c : UInt8} {l : List UInt8} (h : c ≠ 45) : Lib.hasPrefix (c :: l) [45] = false ∧ Lib.trimPrefix (c :: l) [45] = c :: l := by
  have h1 : Lib.hasPrefix (c :: l) [45] = false := by
    unfold Lib.hasPrefix
    simp [List.isPrefixOf]
    exact fun e => h e.symm
  refine ⟨h1, ?_⟩
  unfold Lib.trimPrefix
  rw [h1]
  rfl
theorem tail_bad {sg : Bool} {t : List UInt8} (h : canonB (t.take (lead t)) = false ∨ dval (t.take (lead t)) % 2 = 0 ∨ ∀ k : lead t < t.length, t[lead t]'k ≠ 112) : tailV sg t = (0, 10) := by
  unfold tailV
  rcases index_split t 112 with ⟨i1, _⟩ | ⟨i, i1, i2, i3, _⟩
  · rw [if_pos (by omega)]
  · rw [if_neg (by omega), i1, Int.toNat_natCast]
    unfold fparse.fparse2
    by_cases c : canonB (t.take i) = false
    · rw [if_pos (.inl c)]
    · rw [Bool.not_eq_false] at c
      obtain ⟨k1, k2⟩ := head_no i1 i2 i3 (canon_digs c).1
      rw [k1] at h
      rcases h with h | h | h
      · rw [c] at h
        cases h
      · rw [if_pos (.inr (.inl h))]
      · exact absurd k2 (h i2)
theorem tail_good {sg : Bool} {t : List UInt8} (h : lead t < t.length) (hp : t[lead t]'h = 112) : tailV sg t = fparse.fparse2 sg (t.take (lead t)) (t.drop (lead t + 1)) := by
  unfold tailV
  rw [head_ok h hp, if_neg (by omega), Int.toNat_natCast]
theorem lead_canon {e : List UInt8} (h : canonB e = true) : lead e = e.length := lead_is e e.length (Nat.le_refl _) (by rw [List.take_length]; exact (canon_digs h).1) fun k => absurd k (Nat.lt_irrefl _)
theorem canon_lead_no {e : List UInt8} (h : canonB (e.take (lead e)) = false ∨ lead e < e.length) : canonB e = false := by
  cases c : canonB e with
  | false => rfl
  | true =>
    have h1 := lead_canon c
    rw [h1, List.take_length, c] at h
    rcases h with h | h
    · cases h
    · omega
theorem canon_sat_zero {e : List UInt8} (h : canonB e = true) : sat e = 0 ↔ e = [48] := by
  constructor
  · intro h0
    by_cases c : e = [48]
    · exact c
    · have := canon_pos h c
      rcases sat_or e with k | ⟨k, _⟩ <;> omega
  · intro c
    rw [c]
    rfl
theorem words_parse (a : Nat) (h : a < 2 * signB) (hc : fcan a = a) {l : List UInt8} (hl : ftext a = l) : fparse l = (a, 0) := by
  rw [← hl, fparse_text h, hc]
def word5 : Nat → Nat
  | 0 => 9221120237041090561
  | 1 => 9218868437227405312
  | 2 => 18442240474082181120
  | 3 => 0
  | _ => 9223372036854775808
theorem word5_ok {i : Nat} (h : i < 5) : word5 i < 2 * signB ∧ fcan (word5 i) = word5 i := by
  rcases (show i = 0 ∨ i = 1 ∨ i = 2 ∨ i = 3 ∨ i = 4 by omega) with rfl | rfl | rfl | rfl | rfl <;> decide
theorem word5_none {l : List UInt8} (h : ∀ k, k < 5 → ftext (word5 k) ≠ l) : fparse l = tailV (Lib.hasPrefix l [45]) (Lib.trimPrefix l [45]) := by
  have f0 : ftext (word5 0) = [110, 97, 110] := by decide
  have f1 : ftext (word5 1) = [105, 110, 102] := by decide
  have f2 : ftext (word5 2) = [45, 105, 110, 102] := by decide
  have f3 : ftext (word5 3) = [48] := by decide
  have f4 : ftext (word5 4) = [45, 48] := by decide
  have g0 := h 0 (by decide)
  have g1 := h 1 (by decide)
  have g2 := h 2 (by decide)
  have g3 := h 3 (by decide)
  have g4 := h 4 (by decide)
  rw [f0] at g0
  rw [f1] at g1
  rw [f2] at g2
  rw [f3] at g3
  rw [f4] at g4
  exact fparse_tail g0.symm g1.symm g2.symm g3.symm g4.symm
theorem last_of {l : List UInt8} (h : canonB l = true) : ∃ m c, l = m ++ [c] ∧ isDig c = true ∧ (dval l % 2 = c.toNat % 2) := by
  rcases List.eq_nil_or_concat l with e | ⟨m, c, e⟩
  · exact absurd e (canon_digs h).2
  · rw [List.concat_eq_append] at e
    subst e
    have hd := (canon_digs h).1
    rw [List.all_append, Bool.and_eq_true] at hd
    have hcd : isDig c = true := by simpa using hd.2
    have hr := dig_range hcd
    refine ⟨m, c, rfl, hcd, ?_⟩
    rw [dval_snoc]
    omega
theorem lead_last {t : List UInt8} (h : canonB (t.take (lead t)) = true) : ∃ (k : 0 < lead t) (hk : lead t - 1 < t.length), 48 ≤ (t[lead t - 1]'hk).toNat ∧ (t[lead t - 1]'hk).toNat ≤ 57 ∧ dval (t.take (lead t)) % 2 = (t[lead t - 1]'hk).toNat % 2 := by
  obtain ⟨m, c, h1, h2, h3⟩ := last_of h
  have hle := lead_le t
  have hlen : (t.take (lead t)).length = lead t := by
    rw [List.length_take]
    omega
  have hml : m.length + 1 = lead t := by
    rw [← hlen, h1]
    simp
  have hk : lead t - 1 < t.length := by omega
  have hc : t[lead t - 1]'hk = c := by
    have e1 : (t.take (lead t))[lead t - 1]? = some c := by
      rw [h1, show lead t - 1 = m.length by omega]
      simp
    rw [List.getElem?_take, if_pos (by omega), List.getElem?_eq_getElem hk] at e1
    exact Option.some.inj e1
  refine ⟨by omega, hk, ?_⟩
  rw [hc]
  have hr := dig_range h2
  exact ⟨hr.1, hr.2, h3⟩
end Go.Proofs.YtiidkgdlngcpgaaGreatDoor

namespace Go.Proofs.YtiidkgdlngcpgaaGreatDoor
open Go.RowKit Ieee

theorem str_index {l : List UInt8} {j : Nat} (h : j < l.length) (w : World) : (Instr.index 9 (.string (strOf l)) (.int .i64 ((j : Nat) : Int))).run Tryz.prog w = .ok (.int .u8 (((l[j]'h).toNat : Nat) : Int)) w := by
  have hsz : (strOf l).size = l.length := by rw [ba_size]
  rw [run_index_string w 9 (strOf l) .i64 (j : Int) Tryz.underlying9, dif_pos ⟨by omega, by rw [hsz]; omega⟩]
  congr 3

theorem take_moreR {l : List UInt8} {j : Nat} (h : j < l.length) (ha : (l.take j).all isDig = true) (hd : isDig (l[j]'h) = true) : (l.take (j + 1)).all isDig = true ∧ sat (l.take (j + 1)) = satStep (sat (l.take j)) (l[j]'h) := by
  rw [List.take_succ_eq_append_getElem h, sat_snoc, List.all_append, ha]
  refine ⟨?_, rfl⟩
  simp [hd]

set_option maxHeartbeats 4000000 in
set_option maxRecDepth 100000 in
theorem run_any {l : List UInt8} (hs : l.length < 1073741824) (w : World) :
    Calls Tryz.prog 114 #[.string (strOf l)] w fun e w' => e = .returned (.tuple #[.int .i64 ((lead l : Nat) : Int), .int .u64 ((sat (l.take (lead l)) : Nat) : Int), .bool (canonB (l.take (lead l)))]) ∧ Below w.heap.size w w' := by
  have hG := Lib.hid (Below.refl w.heap.size w)
  have hix := fun j (h : j < l.length) w => str_index h w
  obtain ⟨S, hS⟩ : ∃ S, S = strOf l := ⟨_, rfl⟩
  have hsz : S.size = l.length := by rw [hS, ba_size]
  rw [← hS] at hix ⊢
  have HIX := Lib.hid hix
  clear hS hix
  go_enter Tryz.func114, Tryz.ntmps114
  go_wp2
  go_loopw [5, 6] (fun v5 v6 wr => ∃ j : Nat, v5 = .int .i64 ((j : Nat) : Int) ∧ v6 = .int .u64 ((sat (l.take j) : Nat) : Int) ∧ j ≤ l.length ∧ Hid ((l.take j).all isDig = true) ∧ Hid (Below w.heap.size w wr)) (fun v _ _ => l.length - (intOf v).toNat)
  case atStart => exact ⟨0, rfl, rfl, Nat.zero_le _, rfl, hG⟩
  case round =>
    obtain ⟨j, rfl, rfl, hj, HA, HB⟩ := hrel
    have hx0 := sat_le (l.take j)
    by_cases c : j < l.length
    · have c0 : ((j : Nat) : Int) < ((S.size : Nat) : Int) := by omega
      have hi := fun w => HIX.out j c w
      have hw1 : IntKind.i64.wrap (((j : Nat) : Int) + 1) = ((j : Nat) : Int) + 1 := by
        rw [IntKind.wrap_i64]
        omega
      by_cases hd : isDig (l[j]'c) = true
      · obtain ⟨m1, m2⟩ := take_moreR c HA.out hd
        have M1 := Lib.hid m1
        have M2 := Lib.hid m2
        have hr := dig_range hd
        obtain ⟨cn, hcn⟩ : ∃ z : Nat, z = (l[j]'c).toNat := ⟨_, rfl⟩
        have hst : satStep (sat (l.take j)) (l[j]'c) = if sat (l.take j) < 288230376151711744 then 10 * sat (l.take j) + (cn - 48) else 4611686018427387904 := by
          rw [hcn]
          rfl
        rw [hst] at m2
        have M3 := Lib.hid m2
        rw [← hcn] at hr hi
        obtain ⟨x, hx⟩ : ∃ x : Nat, x = sat (l.take j) := ⟨_, rfl⟩
        rw [← hx] at M3 hx0 ⊢
        clear m1 m2 M2 hst hd hcn hx HIX
        have e1 : (48 : Int) ≤ ((cn : Nat) : Int) := by omega
        have e2 : ¬ ((cn : Nat) : Int) < 48 := by omega
        have e3 : ((cn : Nat) : Int) ≤ 57 := by omega
        have e4 : ¬ (57 : Int) < ((cn : Nat) : Int) := by omega
        by_cases k : x < 288230376151711744
        · have k1 : ((x : Nat) : Int) < 288230376151711744 := by omega
          have M4 := M3.out
          rw [if_pos k] at M4
          have M5 := Lib.hid M4
          have w1 : IntKind.u64.wrap (10 * ((x : Nat) : Int)) = 10 * ((x : Nat) : Int) := by
            rw [IntKind.wrap_u64]
            omega
          have w2 : IntKind.u8.wrap (((cn : Nat) : Int) - 48) = ((cn : Nat) : Int) - 48 := by
            rw [IntKind.wrap_u8]
            omega
          have w3 : IntKind.u64.wrap (((cn : Nat) : Int) - 48) = ((cn : Nat) : Int) - 48 := by
            rw [IntKind.wrap_u64]
            omega
          have w4 : IntKind.u64.wrap (10 * ((x : Nat) : Int) + (((cn : Nat) : Int) - 48)) = 10 * ((x : Nat) : Int) + (((cn : Nat) : Int) - 48) := by
            rw [IntKind.wrap_u64]
            omega
          clear M3 M4 k
          go_wp2
          go_roundw
          case rel => exact ⟨j + 1, by first | rfl | simp, by rw [M5.out]; congr 1; omega, by omega, M1, HB⟩
          case measure => simp [intOf]; omega
        · have k1 : ¬ ((x : Nat) : Int) < 288230376151711744 := by omega
          have M4 := M3.out
          rw [if_neg k] at M4
          have M5 := Lib.hid M4
          clear M3 M4 k
          go_wp2
          go_roundw
          case rel => exact ⟨j + 1, by first | rfl | simp, by rw [M5.out]; rfl, by omega, M1, HB⟩
          case measure => simp [intOf]; omega
      · rw [Bool.not_eq_true] at hd
        have hlead : lead l = j := lead_is l j hj HA.out fun _ => hd
        obtain ⟨cn, hcn⟩ : ∃ z : Nat, z = (l[j]'c).toNat := ⟨_, rfl⟩
        have hc : ((cn : Nat) : Int) < 48 ∨ (¬ ((cn : Nat) : Int) < 48 ∧ (57 : Int) < ((cn : Nat) : Int)) := by
          unfold isDig at hd
          rw [← hcn] at hd
          simp only [Bool.and_eq_false_iff, decide_eq_false_iff_not] at hd
          omega
        rw [← hcn] at hi
        obtain ⟨ci, hci⟩ : ∃ z : Int, z = ((cn : Nat) : Int) := ⟨_, rfl⟩
        rw [← hci] at hi hc
        clear hd hcn hci hw1
        have HL : Hid (lead l = j) := hlead
        have hcb := canon_take hj HA.out
        have hf : (Ending.returned (.tuple #[.int .i64 ((lead l : Nat) : Int), .int .u64 ((sat (l.take (lead l)) : Nat) : Int), .bool (canonB (l.take (lead l)))]) : Ending) = .returned (.tuple #[.int .i64 ((j : Nat) : Int), .int .u64 ((sat (l.take j) : Nat) : Int), .bool (canonB (l.take j))]) := by
          rw [HL.out]
        rw [hcb] at hf
        obtain ⟨x, hx⟩ : ∃ x : Nat, x = sat (l.take j) := ⟨_, rfl⟩
        rw [← hx] at hf hx0 ⊢
        rcases (show j = 0 ∨ j = 1 ∨ 1 < j by omega) with j0 | j0 | j0
        · subst j0
          have HF := Lib.hid hf
          rw [show (((0 : Nat)) : Int) = 0 from rfl] at *
          clear hf hcb hlead HL HA hx hx0 HIX
          rcases hc with e1 | ⟨e1, e2⟩
          · go_upto_region 8 with fail
            go_quiet (fail)
            go_wp2
            go_ret3
            exact ⟨by rw [HF.out]; rfl, below_drewN HB.out _⟩
          · go_upto_region 8 with fail
            go_quiet (fail)
            go_wp2
            go_ret3
            exact ⟨by rw [HF.out]; rfl, below_drewN HB.out _⟩
        · subst j0
          have HF := Lib.hid hf
          rw [show (((1 : Nat)) : Int) = 1 from rfl] at *
          clear hf hcb hlead HL HA hx hx0 HIX
          rcases hc with e1 | ⟨e1, e2⟩
          · go_upto_region 8 with fail
            go_quiet (fail)
            go_wp2
            go_ret3
            exact ⟨by rw [HF.out]; rfl, below_drewN HB.out _⟩
          · go_upto_region 8 with fail
            go_quiet (fail)
            go_wp2
            go_ret3
            exact ⟨by rw [HF.out]; rfl, below_drewN HB.out _⟩
        · have j1 : (((j : Nat) : Int) == 1) = false := beq_eq_false_iff_ne.2 (by omega)
          have j2 : (1 : Int) < ((j : Nat) : Int) := by omega
          have hl0 : 0 < l.length := by omega
          have h0 := fun w => HIX.out 0 hl0 w
          have hg0 : (l.getD 0 0) = l[0]'hl0 := by simp [List.getD, List.getElem?_eq_getElem hl0]
          rw [hg0, decide_eq_false (show ¬ j = 1 by omega), decide_eq_true j0, Bool.false_or, Bool.true_and] at hf
          obtain ⟨c0n, hc0⟩ : ∃ z : Nat, z = (l[0]'hl0).toNat := ⟨_, rfl⟩
          rw [← hc0] at h0 hf
          rw [show ((0 : Nat) : Int) = 0 from rfl] at h0
          by_cases q : c0n = 48
          · have q1 : (((c0n : Nat) : Int) == 48) = true := beq_iff_eq.2 (by omega)
            rw [decide_eq_false (fun h => h q)] at hf
            have HF := Lib.hid hf
            have q2 : ((c0n : Nat) : Int) = 48 := by omega
            rw [q2] at h0
            clear hf hcb hlead HL HA hx hx0 HIX hg0 hc0 q q1 q2
            rcases hc with e1 | ⟨e1, e2⟩
            · go_upto_region 8 with fail
              go_quiet (fail)
              go_wp2
              go_ret3
              exact ⟨by rw [HF.out]; rfl, below_drewN HB.out _⟩
            · go_upto_region 8 with fail
              go_quiet (fail)
              go_wp2
              go_ret3
              exact ⟨by rw [HF.out]; rfl, below_drewN HB.out _⟩
          
          · have q1 : (((c0n : Nat) : Int) != 48) = true := bne_iff_ne.2 (by omega)
            rw [decide_eq_true q] at hf
            have HF := Lib.hid hf
            obtain ⟨c0i, hc0i⟩ : ∃ z : Int, z = ((c0n : Nat) : Int) := ⟨_, rfl⟩
            rw [← hc0i] at h0 q1
            clear hf hcb hlead HL HA hx hx0 HIX hg0 hc0 q hc0i
            rcases hc with e1 | ⟨e1, e2⟩
            · go_upto_region 8 with fail
              go_quiet (fail)
              go_wp2
              go_ret3
              exact ⟨by rw [HF.out]; rfl, below_drewN HB.out _⟩
            · go_upto_region 8 with fail
              go_quiet (fail)
              go_wp2
              go_ret3
              exact ⟨by rw [HF.out]; rfl, below_drewN HB.out _⟩
    · have c0 : ¬ ((j : Nat) : Int) < ((S.size : Nat) : Int) := by omega
      have hlead : lead l = j := lead_is l j hj HA.out fun h => absurd h c
      have HL : Hid (lead l = j) := hlead
      have hcb := canon_take hj HA.out
      have hf : (Ending.returned (.tuple #[.int .i64 ((lead l : Nat) : Int), .int .u64 ((sat (l.take (lead l)) : Nat) : Int), .bool (canonB (l.take (lead l)))]) : Ending) = .returned (.tuple #[.int .i64 ((j : Nat) : Int), .int .u64 ((sat (l.take j) : Nat) : Int), .bool (canonB (l.take j))]) := by
        rw [HL.out]
      rw [hcb] at hf
      obtain ⟨x, hx⟩ : ∃ x : Nat, x = sat (l.take j) := ⟨_, rfl⟩
      rw [← hx] at hf hx0 ⊢
      rcases (show j = 0 ∨ j = 1 ∨ 1 < j by omega) with j0 | j0 | j0
      · subst j0
        have HF := Lib.hid hf
        rw [show (((0 : Nat)) : Int) = 0 from rfl] at *
        clear hf hcb hlead HL HA hx hx0 HIX
        go_upto_region 8 with fail
        go_quiet (fail)
        go_wp2
        go_ret3
        exact ⟨by rw [HF.out]; rfl, below_drewN HB.out _⟩
      · subst j0
        have HF := Lib.hid hf
        rw [show (((1 : Nat)) : Int) = 1 from rfl] at *
        clear hf hcb hlead HL HA hx hx0 HIX
        go_upto_region 8 with fail
        go_quiet (fail)
        go_wp2
        go_ret3
        exact ⟨by rw [HF.out]; rfl, below_drewN HB.out _⟩
      · have j1 : (((j : Nat) : Int) == 1) = false := beq_eq_false_iff_ne.2 (by omega)
        have j2 : (1 : Int) < ((j : Nat) : Int) := by omega
        have hl0 : 0 < l.length := by omega
        have h0 := fun w => HIX.out 0 hl0 w
        have hg0 : (l.getD 0 0) = l[0]'hl0 := by simp [List.getD, List.getElem?_eq_getElem hl0]
        rw [hg0, decide_eq_false (show ¬ j = 1 by omega), decide_eq_true j0, Bool.false_or, Bool.true_and] at hf
        obtain ⟨c0n, hc0⟩ : ∃ z : Nat, z = (l[0]'hl0).toNat := ⟨_, rfl⟩
        rw [← hc0] at h0 hf
        rw [show ((0 : Nat) : Int) = 0 from rfl] at h0
        by_cases q : c0n = 48
        · have q1 : (((c0n : Nat) : Int) == 48) = true := beq_iff_eq.2 (by omega)
          rw [decide_eq_false (fun h => h q)] at hf
          have HF := Lib.hid hf
          have q2 : ((c0n : Nat) : Int) = 48 := by omega
          rw [q2] at h0
          clear hf hcb hlead HL HA hx hx0 HIX hg0 hc0 q q1 q2
          go_upto_region 8 with fail
          go_quiet (fail)
          go_wp2
          go_ret3
          exact ⟨by rw [HF.out]; rfl, below_drewN HB.out _⟩
        
        · have q1 : (((c0n : Nat) : Int) != 48) = true := bne_iff_ne.2 (by omega)
          rw [decide_eq_true q] at hf
          have HF := Lib.hid hf
          obtain ⟨c0i, hc0i⟩ : ∃ z : Int, z = ((c0n : Nat) : Int) := ⟨_, rfl⟩
          rw [← hc0i] at h0 q1
          clear hf hcb hlead HL HA hx hx0 HIX hg0 hc0 q hc0i
          go_upto_region 8 with fail
          go_quiet (fail)
          go_wp2
          go_ret3
          exact ⟨by rw [HF.out]; rfl, below_drewN HB.out _⟩
end Go.Proofs.YtiidkgdlngcpgaaGreatDoor

namespace Go.Proofs.YtiidkgdlngcpgaaGreatDoor
open Go.RowKit Ieee

theorem takes_any {a : Nat} (ha : a < 2 * signB) : Told 103 #[.int .u64 ((a : Nat) : Int)] (.tuple #[.int .u64 ((takenM (a % signB) : Nat) : Int), .int .i64 (takenE (a % signB))]) := by
  intro w
  have f1 : bits .and .u64 (((a : Nat) : Int) / 4503599627370496) 2047 = ((a / 4503599627370496 % 2048 : Nat) : Int) := by
    have h := u64_and_nat (a / 4503599627370496) 2047 (by unfold signB at ha; omega) (by decide)
    rw [show a / 4503599627370496 &&& 2047 = a / 4503599627370496 % 2048 from Nat.and_two_pow_sub_one_eq_mod _ 11] at h
    exact h
  have f2 := and_frac ha
  have f4 : bits .or .u64 ((a % 4503599627370496 : Nat) : Int) 4503599627370496 = ((4503599627370496 + a % 4503599627370496 : Nat) : Int) := by
    have h : bits .or .u64 ((a % 4503599627370496 : Nat) : Int) 4503599627370496 = ((a % 4503599627370496 ||| 4503599627370496 : Nat) : Int) := u64_or_nat (a % 4503599627370496) 4503599627370496 (by omega) (by decide)
    rw [Nat.or_comm, nat_join 52 4503599627370496 (a % 4503599627370496) (by decide) (by omega)] at h
    exact h
  by_cases c : a / 4503599627370496 % 2048 = 0
  · have hr : takenM (a % signB) = a % 4503599627370496 ∧ takenE (a % signB) = -1074 := by
      unfold takenM takenE signB
      have hlt : a % 9223372036854775808 < 4503599627370496 := by omega
      rw [if_pos hlt, if_pos hlt]
      exact ⟨by omega, rfl⟩
    rw [hr.1, hr.2]
    rw [c] at f1
    obtain ⟨M, hM⟩ : ∃ z : Int, z = ((a % 4503599627370496 : Nat) : Int) := ⟨_, rfl⟩
    rw [← hM] at f2 f4 ⊢
    clear hM hr c ha
    go_enter Tryz.func103, Tryz.ntmps103
    go_wp2
    go_ret2
    exact ⟨rfl, 0, rfl⟩
  · have hr : takenM (a % signB) = 4503599627370496 + a % 4503599627370496 ∧ takenE (a % signB) = ((a / 4503599627370496 % 2048 : Nat) : Int) - 1075 := by
      unfold takenM takenE signB
      have hlt : ¬ a % 9223372036854775808 < 4503599627370496 := by omega
      rw [if_neg hlt, if_neg hlt]
      exact ⟨by omega, by omega⟩
    rw [hr.1, hr.2]
    have c2 : ¬ ((a / 4503599627370496 % 2048 : Nat) : Int) = 0 := by omega
    have c3 : 0 ≤ ((a / 4503599627370496 % 2048 : Nat) : Int) ∧ ((a / 4503599627370496 % 2048 : Nat) : Int) < 2048 := by omega
    obtain ⟨X, hX⟩ : ∃ z : Int, z = ((a / 4503599627370496 % 2048 : Nat) : Int) := ⟨_, rfl⟩
    obtain ⟨Z, hZ⟩ : ∃ z : Int, z = ((4503599627370496 + a % 4503599627370496 : Nat) : Int) := ⟨_, rfl⟩
    obtain ⟨M, hM⟩ : ∃ z : Int, z = ((a % 4503599627370496 : Nat) : Int) := ⟨_, rfl⟩
    rw [← hX] at f1 c2 c3 ⊢
    rw [← hZ] at f4 ⊢
    rw [← hM] at f2 f4
    have w1 : IntKind.i64.wrap X = X := by
      rw [IntKind.wrap_i64]
      omega
    have w2 : IntKind.i64.wrap (X - 1075) = X - 1075 := by
      rw [IntKind.wrap_i64]
      omega
    clear hM hr c ha hX hZ
    go_enter Tryz.func103, Tryz.ntmps103
    go_wp2
    go_ret2
    exact ⟨rfl, 0, rfl⟩


set_option maxHeartbeats 2000000 in
theorem rdigits_any : ∀ (k n : Nat), n < k → n < 18446744073709551616 → ∀ w : World, Calls Tryz.prog 35 #[.int .u64 ((n : Nat) : Int)] w fun e w' => e = .returned (.string ⟨(Lib.decDigits n).toArray⟩) ∧ Below w.heap.size w w'
  | 0, n, h, _, _ => absurd h (Nat.not_lt_zero _)
  | k + 1, n, hk, hn, w => by
    obtain ⟨d, hd⟩ : ∃ d, d = UInt8.ofNat (48 + n % 10) := ⟨_, rfl⟩
    have hdn : d.toNat = 48 + n % 10 := by
      rw [hd, UInt8.toNat_ofNat']
      omega
    have w1 : IntKind.u64.wrap (48 + ((n : Nat) : Int) % 10) = 48 + ((n : Nat) : Int) % 10 := by
      rw [IntKind.wrap_u64]
      omega
    have w2 : IntKind.u8.wrap (48 + ((n : Nat) : Int) % 10) = ((d.toNat : Nat) : Int) := by
      rw [IntKind.wrap_u8]
      omega
    have hcv : (convert 46 9 (.slice (some ⟨w.heap.size, 0, none⟩) 1 1)).run Tryz.prog (w.alloc (.cells #[.int .u8 ((d.toNat : Nat) : Int)] 5)) = .ok (.string ⟨[d].toArray⟩) (w.alloc (.cells #[.int .u8 ((d.toNat : Nat) : Int)] 5)) :=
      run_convert_bytes_back (P := Tryz.prog) (w.alloc (.cells #[.int .u8 ((d.toNat : Nat) : Int)] 5)) 46 9 5 ⟨w.heap.size, 0, none⟩ 1 [d] Tryz.underlying46 Tryz.underlying5 Tryz.underlying9 (fun j hj => by
        have hj0 : j = 0 := by simpa using hj
        subst hj0
        rw [Lib.add_plain, World.cell?_alloc_new]
        rfl)
    have q : ((n : Nat) : Int) / 10 = ((n / 10 : Nat) : Int) := by omega
    by_cases c : n < 10
    · have c1 : ¬ (10 : Int) ≤ ((n : Nat) : Int) := by omega
      have hR : Lib.decDigits n = [d] := by
        rw [Lib.decDigits, dif_pos c, hd, Nat.mod_eq_of_lt c]
      rw [hR]
      clear hd hdn hR c hk hn
      go_enter Tryz.func35, Tryz.ntmps35
      go_wp2
      go_ret
      exact ⟨rfl, (Below.refl _ _).alloc (Nat.le_refl _) _⟩
    · have c1 : (10 : Int) ≤ ((n : Nat) : Int) := by omega
      have hR : Lib.decDigits n = Lib.decDigits (n / 10) ++ [d] := by
        rw [Lib.decDigits, dif_neg c, hd]
      rw [hR]
      have w3 : IntKind.u64.wrap ((n / 10 : Nat) : Int) = ((n / 10 : Nat) : Int) := by
        rw [IntKind.wrap_u64]
        omega
      have ih := fun w => rdigits_any k (n / 10) (by omega) (by omega) w
      have l1 := (decDigits_len (n / 10)).2 (by omega)
      obtain ⟨D, hDD⟩ : ∃ D, D = Lib.decDigits (n / 10) := ⟨_, rfl⟩
      rw [← hDD] at ih l1 ⊢
      obtain ⟨BD, hBD⟩ : ∃ z : ByteArray, z = ⟨D.toArray⟩ := ⟨_, rfl⟩
      have s1 : BD.size ≤ 20 := by
        rw [hBD, ba_size]
        exact l1
      obtain ⟨B1, hB1⟩ : ∃ z : ByteArray, z = ⟨[d].toArray⟩ := ⟨_, rfl⟩
      have s2 : B1.size ≤ 1 := by
        rw [hB1, ba_size]
        exact Nat.le_refl _
      have HV : Hid (BD ++ B1 = ⟨(D ++ [d]).toArray⟩) := by
        show BD ++ B1 = ⟨(D ++ [d]).toArray⟩
        rw [hBD, hB1, ba_app]
      rw [← hBD] at ih
      rw [← hB1] at hcv
      obtain ⟨m, hm⟩ : ∃ m : Int, m = ((n / 10 : Nat) : Int) := ⟨_, rfl⟩
      rw [← hm] at q ih w3
      clear hd hdn hR c hk hn hBD hB1 hDD l1 hm
      go_enter Tryz.func35, Tryz.ntmps35
      go_wp2_with (go_at_call 35; go_loud (with_reducible refine (ih _).mono ?_; rintro _ _ ⟨rfl, hb⟩; have HB := Lib.hid (grow_trans ((Below.refl w.heap.size w).alloc (Nat.le_refl _) _) hb); clear hb))
      go_ret
      exact ⟨by rw [← HV.out]; rfl, HB.out⟩

theorem odd_part : ∀ (n m : Nat), m < n → 0 < m → ∃ o t, m = o * 2 ^ t ∧ o % 2 = 1
  | 0, m, h, _ => absurd h (Nat.not_lt_zero _)
  | n + 1, m, h, h0 => by
    by_cases c : m % 2 = 1
    · exact ⟨m, 0, by simp, c⟩
    · obtain ⟨o, t, h1, h2⟩ := odd_part n (m / 2) (by omega) (by omega)
      refine ⟨o, t + 1, ?_, h2⟩
      rw [Nat.pow_succ, ← Nat.mul_assoc, ← h1]
      omega
theorem half_step (o t j : Nat) (h : j < t) : o * 2 ^ (t - j) = 2 * (o * 2 ^ (t - (j + 1))) := by
  rw [show t - j = (t - (j + 1)) + 1 from by omega, Nat.pow_succ, ← Nat.mul_assoc, Nat.mul_comm 2]
theorem and_one_small (x : Nat) (h : x < 18446744073709551616) : bits .and .u64 ((x : Nat) : Int) 1 = ((x % 2 : Nat) : Int) := by
  have h1 : bits .and .u64 ((x : Nat) : Int) ((1 : Nat) : Int) = ((x &&& 1 : Nat) : Int) := u64_and_nat x 1 h (by decide)
  rw [Nat.and_one_is_mod] at h1
  exact h1
set_option maxHeartbeats 4000000 in
set_option maxRecDepth 100000 in
theorem rtext_any {a : Nat} (ha : a < 2 * signB) (w : World) : Calls Tryz.prog 73 #[.int .u64 (a : Nat)] w fun e w' => e = .returned (.string ⟨(ftext a).toArray⟩) ∧ Below w.heap.size w w' := by
  have hG := Lib.hid (Below.refl w.heap.size w)
  have kn := told_grew (risnan_any ha)
  have ka := told_grew (takes_any ha)
  have fX : bits .andNot .u64 ((a : Nat) : Int) 9223372036854775808 = ((a % 9223372036854775808 : Nat) : Int) := andNot_sign a (by unfold signB at ha; omega)
  have fS : bits .and .u64 ((a : Nat) : Int) 9223372036854775808 = if 9223372036854775808 ≤ a then 9223372036854775808 else 0 := and_sign ha
  have hF : ftext a = if isN a then [110, 97, 110] else (if 9223372036854775808 ≤ a then [45] else []) ++ (if a % signB = infB then [105, 110, 102] else if a % signB = 0 then [48] else Lib.decDigits (oddM (a % signB)) ++ 112 :: Lib.itoa (oddE (a % signB))) := rfl
  have hni := isN_iff a
  obtain ⟨L, hL⟩ : ∃ L, L = ftext a := ⟨_, rfl⟩
  rw [← hL] at hF ⊢
  clear hL
  obtain ⟨x, hx⟩ : ∃ x, x = a % signB := ⟨_, rfl⟩
  rw [← hx] at ka hF hni
  unfold signB at hx
  rw [← hx] at fX
  clear hx
  have I0 : infB = 9218868437227405312 := rfl
  rw [I0] at hF hni
  obtain ⟨N, hN⟩ : ∃ N, N = isN a := ⟨_, rfl⟩
  rw [← hN] at kn hF hni
  clear hN
  obtain ⟨X, hX⟩ : ∃ X : Int, X = ((x : Nat) : Int) := ⟨_, rfl⟩
  rw [← hX] at fX
  cases N with
  | true =>
    rw [if_pos rfl] at hF
    clear fX fS ka hni hX I0
    go_enter Tryz.func73, Tryz.ntmps73
    go_wp2_with (first | (go_at_call 93; with_reducible (refine (kn _).mono ?_); rintro _ _ ⟨rfl, hb⟩; replace hG := Lib.hid (grow_trans hG.out hb); clear hb) | (go_at_call 103; with_reducible (refine (ka _).mono ?_); rintro _ _ ⟨rfl, hb⟩; replace hG := Lib.hid (grow_trans hG.out hb); clear hb))
    go_ret
    exact ⟨by rw [hF]; rfl, hG.out⟩
  | false =>
    rw [if_neg (by decide)] at hF
    have hxi : x ≤ 9218868437227405312 := Nat.le_of_not_lt fun h => nomatch hni.2 h
    clear hni

    by_cases cs : 9223372036854775808 ≤ a
    · rw [if_pos cs] at hF fS
      by_cases c1 : x = 9218868437227405312
      · rw [if_pos c1] at hF
        have t1 : X = 9218868437227405312 := by omega
        rw [t1] at fX
        clear hX I0 c1 t1 cs ha hxi
        go_enter Tryz.func73, Tryz.ntmps73
        go_wp2_with (first | (go_at_call 93; with_reducible (refine (kn _).mono ?_); rintro _ _ ⟨rfl, hb⟩; replace hG := Lib.hid (grow_trans hG.out hb); clear hb) | (go_at_call 103; with_reducible (refine (ka _).mono ?_); rintro _ _ ⟨rfl, hb⟩; replace hG := Lib.hid (grow_trans hG.out hb); clear hb))
        go_ret
        exact ⟨by rw [hF]; rfl, hG.out⟩
      rw [if_neg c1] at hF
      have t1 : (X == 9218868437227405312) = false := beq_eq_false_iff_ne.2 (by omega)
      by_cases c2 : x = 0
      · rw [if_pos c2] at hF
        have hm : takenM x = 0 := (takenM_zero x).2 c2
        rw [hm, show ((0 : Nat) : Int) = 0 from rfl] at ka
        obtain ⟨e, he⟩ : ∃ e, e = takenE x := ⟨_, rfl⟩
        rw [← he] at ka
        clear hX I0 c1 c2 cs ha hxi he hm
        go_enter Tryz.func73, Tryz.ntmps73
        go_wp2_with (first | (go_at_call 93; with_reducible (refine (kn _).mono ?_); rintro _ _ ⟨rfl, hb⟩; replace hG := Lib.hid (grow_trans hG.out hb); clear hb) | (go_at_call 103; with_reducible (refine (ka _).mono ?_); rintro _ _ ⟨rfl, hb⟩; replace hG := Lib.hid (grow_trans hG.out hb); clear hb))
        go_ret
        exact ⟨by rw [hF]; rfl, hG.out⟩
      rw [if_neg c2] at hF
      have hxi2 : x < infB := by omega
      have hm1 := @taken_lt x
      have hm0 := takenM_pos c2
      have he0 := takenE_ge x
      have he1 := takenE_le hxi2
      obtain ⟨q1, q2, q3⟩ := odd_split c2
      have hE : oddE x = takenE x + (Lib.ctz 64 (takenM x) : Int) := rfl
      obtain ⟨m, hm⟩ : ∃ m, m = takenM x := ⟨_, rfl⟩
      obtain ⟨e, he⟩ : ∃ e, e = takenE x := ⟨_, rfl⟩
      obtain ⟨od, hod⟩ : ∃ e, e = oddM x := ⟨_, rfl⟩
      obtain ⟨E, hEE⟩ : ∃ e, e = oddE x := ⟨_, rfl⟩
      rw [← hm] at ka hm1 hm0 q1 q3 hE
      rw [← he] at ka he0 he1 hE
      rw [← hod] at q1 q2 hF
      rw [← hEE] at hE hF
      obtain ⟨t, ht⟩ : ∃ t, t = Lib.ctz 64 m := ⟨_, rfl⟩
      rw [← ht] at q1 q3 hE
      have hodm : od ≤ m := by
        rw [q1]
        exact Nat.le_mul_of_pos_right _ (Nat.pow_pos (by decide))
      have hz : (((m : Nat) : Int) == 0) = false := beq_eq_false_iff_ne.2 (by omega)
      have HM := Lib.hid q1
      have HF := Lib.hid hF
      clear hX I0 c1 c2 cs ha hxi hxi2 hm he hod hEE ht q1 hF
      go_enter Tryz.func73, Tryz.ntmps73
      go_wp2_with (first | (go_at_call 93; with_reducible (refine (kn _).mono ?_); rintro _ _ ⟨rfl, hb⟩; replace hG := Lib.hid (grow_trans hG.out hb); clear hb) | (go_at_call 103; with_reducible (refine (ka _).mono ?_); rintro _ _ ⟨rfl, hb⟩; replace hG := Lib.hid (grow_trans hG.out hb); clear hb))
      have HG := hG
      clear hG
      go_loopw [4, 5] (fun v5 v6 wr => ∃ j : Nat, v5 = .int .u64 ((od * 2 ^ (t - j) : Nat) : Int) ∧ v6 = .int .i64 (e + ((j : Nat) : Int)) ∧ j ≤ t ∧ Hid (Below w.heap.size w wr)) (fun _ v _ => (3000 - intOf v).toNat)
      case atStart => exact ⟨0, by rw [Nat.sub_zero, ← HM.out], by simp, Nat.zero_le _, HG⟩
      case round =>
        obtain ⟨j, rfl, rfl, hj, HB⟩ := hrel
        have w6 : IntKind.i64.wrap (e + ((j : Nat) : Int) + 1) = e + ((j : Nat) : Int) + 1 := by
          rw [IntKind.wrap_i64]
          omega
        by_cases c : j < t
        · have hst := half_step od t j c
          have hle : od * 2 ^ (t - j) ≤ m := by
            rw [HM.out]
            exact Nat.mul_le_mul_left _ (Nat.pow_le_pow_right (by decide) (by omega))
          obtain ⟨y, hy⟩ : ∃ y, y = od * 2 ^ (t - (j + 1)) := ⟨_, rfl⟩
          rw [← hy] at hst
          rw [hst] at hle ⊢
          have ha1 := and_one_small (2 * y) (by omega)
          rw [show 2 * y % 2 = 0 from by omega] at ha1
          have hh : ((2 * y : Nat) : Int) / 2 = ((y : Nat) : Int) := by omega
          obtain ⟨Z, hZ⟩ : ∃ Z : Int, Z = ((2 * y : Nat) : Int) := ⟨_, rfl⟩
          rw [← hZ] at ha1 hh ⊢
          have HY := Lib.hid hy
          clear hst hle hy hZ
          go_wp2
          refine ⟨⟨j + 1, by rw [← HY.out], by rw [Int.natCast_add, Int.natCast_one, Int.add_assoc], by omega, HB⟩, by simp [intOf]; omega⟩
        · have hjt : j = t := by omega
          subst hjt
          rw [Nat.sub_self, Nat.pow_zero, Nat.mul_one]
          have ha1 := and_one_small od (by omega)
          rw [q2] at ha1
          rw [← hE]
          have kd := fun w => rdigits_any (od + 1) od (by omega) (by omega) w
          have l1 := (decDigits_len od).2 (by omega)
          obtain ⟨DM, hDM⟩ : ∃ D, D = Lib.decDigits od := ⟨_, rfl⟩
          rw [← hDM] at kd l1
          have hF := HF.out
          rw [← hDM] at hF
          obtain ⟨BM, hBM⟩ : ∃ z : ByteArray, z = ⟨DM.toArray⟩ := ⟨_, rfl⟩
          have s1 : BM.size ≤ 20 := by
            rw [hBM, ba_size]
            exact l1
          rw [← hBM] at kd
          have hG := HB
          by_cases k1 : E < 0
          · have ke := fun w => rdigits_any (E.natAbs + 1) E.natAbs (by omega) (by omega) w
            have l2 := (decDigits_len E.natAbs).2 (by omega)
            obtain ⟨DE, hDE⟩ : ∃ D, D = Lib.decDigits E.natAbs := ⟨_, rfl⟩
            rw [← hDE] at ke l2
            have hI : Lib.itoa E = 45 :: DE := by
              unfold Lib.itoa
              rw [if_pos k1, hDE]
            rw [hI] at hF
            obtain ⟨BE, hBE⟩ : ∃ z : ByteArray, z = ⟨DE.toArray⟩ := ⟨_, rfl⟩
            have s2 : BE.size ≤ 20 := by
              rw [hBE, ba_size]
              exact l2
            rw [← hBE] at ke
            have HV : Hid ((({ data := #[45] } : ByteArray) ++ BM ++ { data := #[112, 45] }) ++ BE = ⟨L.toArray⟩) := by
              show (({ data := #[45] } : ByteArray) ++ BM ++ { data := #[112, 45] }) ++ BE = ⟨L.toArray⟩
              rw [hF, hBM, hBE]
              apply ByteArray.ext
              simp
            have w7 : IntKind.i64.wrap (-E) = -E := by
              rw [IntKind.wrap_i64]
              omega
            have w8 : IntKind.u64.wrap (-E) = ((E.natAbs : Nat) : Int) := by
              rw [IntKind.wrap_u64]
              omega
            obtain ⟨na, hna⟩ : ∃ n, n = E.natAbs := ⟨_, rfl⟩
            rw [← hna] at ke w8
            clear w6 hE he0 he1 c hj HM HF hF hDM hBM hDE hBE hI l1 l2 hna q2 q3 hodm hm1 hm0 ka
            go_wp2_with (first | (go_at_call 35; first | (with_reducible (refine (kd _).mono ?_); rintro _ _ ⟨rfl, hb⟩; replace hG := Lib.hid (grow_trans hG.out hb); clear hb) | (with_reducible (refine (ke _).mono ?_); rintro _ _ ⟨rfl, hb⟩; replace hG := Lib.hid (grow_trans hG.out hb); clear hb)))
            go_ret
            exact ⟨by rw [← HV.out]; rfl, hG.out⟩
          · have ke := fun w => rdigits_any (E.toNat + 1) E.toNat (by omega) (by omega) w
            have l2 := (decDigits_len E.toNat).2 (by omega)
            obtain ⟨DE, hDE⟩ : ∃ D, D = Lib.decDigits E.toNat := ⟨_, rfl⟩
            rw [← hDE] at ke l2
            have hI : Lib.itoa E = DE := by
              unfold Lib.itoa
              rw [if_neg k1, hDE]
            rw [hI] at hF
            obtain ⟨BE, hBE⟩ : ∃ z : ByteArray, z = ⟨DE.toArray⟩ := ⟨_, rfl⟩
            have s2 : BE.size ≤ 20 := by
              rw [hBE, ba_size]
              exact l2
            rw [← hBE] at ke
            have HV : Hid ((({ data := #[45] } : ByteArray) ++ BM ++ { data := #[112] }) ++ BE = ⟨L.toArray⟩) := by
              show (({ data := #[45] } : ByteArray) ++ BM ++ { data := #[112] }) ++ BE = ⟨L.toArray⟩
              rw [hF, hBM, hBE]
              apply ByteArray.ext
              simp
            have w8 : IntKind.u64.wrap E = ((E.toNat : Nat) : Int) := by
              rw [IntKind.wrap_u64]
              omega
            obtain ⟨na, hna⟩ : ∃ n, n = E.toNat := ⟨_, rfl⟩
            rw [← hna] at ke w8
            clear w6 hE he0 he1 c hj HM HF hF hDM hBM hDE hBE hI l1 l2 hna q2 q3 hodm hm1 hm0 ka
            go_wp2_with (first | (go_at_call 35; first | (with_reducible (refine (kd _).mono ?_); rintro _ _ ⟨rfl, hb⟩; replace hG := Lib.hid (grow_trans hG.out hb); clear hb) | (with_reducible (refine (ke _).mono ?_); rintro _ _ ⟨rfl, hb⟩; replace hG := Lib.hid (grow_trans hG.out hb); clear hb)))
            go_ret
            exact ⟨by rw [← HV.out]; rfl, hG.out⟩
    · rw [if_neg cs] at hF fS
      by_cases c1 : x = 9218868437227405312
      · rw [if_pos c1] at hF
        have t1 : X = 9218868437227405312 := by omega
        rw [t1] at fX
        clear hX I0 c1 t1 cs ha hxi
        go_enter Tryz.func73, Tryz.ntmps73
        go_wp2_with (first | (go_at_call 93; with_reducible (refine (kn _).mono ?_); rintro _ _ ⟨rfl, hb⟩; replace hG := Lib.hid (grow_trans hG.out hb); clear hb) | (go_at_call 103; with_reducible (refine (ka _).mono ?_); rintro _ _ ⟨rfl, hb⟩; replace hG := Lib.hid (grow_trans hG.out hb); clear hb))
        go_ret
        exact ⟨by rw [hF]; rfl, hG.out⟩
      rw [if_neg c1] at hF
      have t1 : (X == 9218868437227405312) = false := beq_eq_false_iff_ne.2 (by omega)
      by_cases c2 : x = 0
      · rw [if_pos c2] at hF
        have hm : takenM x = 0 := (takenM_zero x).2 c2
        rw [hm, show ((0 : Nat) : Int) = 0 from rfl] at ka
        obtain ⟨e, he⟩ : ∃ e, e = takenE x := ⟨_, rfl⟩
        rw [← he] at ka
        clear hX I0 c1 c2 cs ha hxi he hm
        go_enter Tryz.func73, Tryz.ntmps73
        go_wp2_with (first | (go_at_call 93; with_reducible (refine (kn _).mono ?_); rintro _ _ ⟨rfl, hb⟩; replace hG := Lib.hid (grow_trans hG.out hb); clear hb) | (go_at_call 103; with_reducible (refine (ka _).mono ?_); rintro _ _ ⟨rfl, hb⟩; replace hG := Lib.hid (grow_trans hG.out hb); clear hb))
        go_ret
        exact ⟨by rw [hF]; rfl, hG.out⟩
      rw [if_neg c2] at hF
      have hxi2 : x < infB := by omega
      have hm1 := @taken_lt x
      have hm0 := takenM_pos c2
      have he0 := takenE_ge x
      have he1 := takenE_le hxi2
      obtain ⟨q1, q2, q3⟩ := odd_split c2
      have hE : oddE x = takenE x + (Lib.ctz 64 (takenM x) : Int) := rfl
      obtain ⟨m, hm⟩ : ∃ m, m = takenM x := ⟨_, rfl⟩
      obtain ⟨e, he⟩ : ∃ e, e = takenE x := ⟨_, rfl⟩
      obtain ⟨od, hod⟩ : ∃ e, e = oddM x := ⟨_, rfl⟩
      obtain ⟨E, hEE⟩ : ∃ e, e = oddE x := ⟨_, rfl⟩
      rw [← hm] at ka hm1 hm0 q1 q3 hE
      rw [← he] at ka he0 he1 hE
      rw [← hod] at q1 q2 hF
      rw [← hEE] at hE hF
      obtain ⟨t, ht⟩ : ∃ t, t = Lib.ctz 64 m := ⟨_, rfl⟩
      rw [← ht] at q1 q3 hE
      have hodm : od ≤ m := by
        rw [q1]
        exact Nat.le_mul_of_pos_right _ (Nat.pow_pos (by decide))
      have hz : (((m : Nat) : Int) == 0) = false := beq_eq_false_iff_ne.2 (by omega)
      have HM := Lib.hid q1
      have HF := Lib.hid hF
      clear hX I0 c1 c2 cs ha hxi hxi2 hm he hod hEE ht q1 hF
      go_enter Tryz.func73, Tryz.ntmps73
      go_wp2_with (first | (go_at_call 93; with_reducible (refine (kn _).mono ?_); rintro _ _ ⟨rfl, hb⟩; replace hG := Lib.hid (grow_trans hG.out hb); clear hb) | (go_at_call 103; with_reducible (refine (ka _).mono ?_); rintro _ _ ⟨rfl, hb⟩; replace hG := Lib.hid (grow_trans hG.out hb); clear hb))
      have HG := hG
      clear hG
      go_loopw [4, 5] (fun v5 v6 wr => ∃ j : Nat, v5 = .int .u64 ((od * 2 ^ (t - j) : Nat) : Int) ∧ v6 = .int .i64 (e + ((j : Nat) : Int)) ∧ j ≤ t ∧ Hid (Below w.heap.size w wr)) (fun _ v _ => (3000 - intOf v).toNat)
      case atStart => exact ⟨0, by rw [Nat.sub_zero, ← HM.out], by simp, Nat.zero_le _, HG⟩
      case round =>
        obtain ⟨j, rfl, rfl, hj, HB⟩ := hrel
        have w6 : IntKind.i64.wrap (e + ((j : Nat) : Int) + 1) = e + ((j : Nat) : Int) + 1 := by
          rw [IntKind.wrap_i64]
          omega
        by_cases c : j < t
        · have hst := half_step od t j c
          have hle : od * 2 ^ (t - j) ≤ m := by
            rw [HM.out]
            exact Nat.mul_le_mul_left _ (Nat.pow_le_pow_right (by decide) (by omega))
          obtain ⟨y, hy⟩ : ∃ y, y = od * 2 ^ (t - (j + 1)) := ⟨_, rfl⟩
          rw [← hy] at hst
          rw [hst] at hle ⊢
          have ha1 := and_one_small (2 * y) (by omega)
          rw [show 2 * y % 2 = 0 from by omega] at ha1
          have hh : ((2 * y : Nat) : Int) / 2 = ((y : Nat) : Int) := by omega
          obtain ⟨Z, hZ⟩ : ∃ Z : Int, Z = ((2 * y : Nat) : Int) := ⟨_, rfl⟩
          rw [← hZ] at ha1 hh ⊢
          have HY := Lib.hid hy
          clear hst hle hy hZ
          go_wp2
          refine ⟨⟨j + 1, by rw [← HY.out], by rw [Int.natCast_add, Int.natCast_one, Int.add_assoc], by omega, HB⟩, by simp [intOf]; omega⟩
        · have hjt : j = t := by omega
          subst hjt
          rw [Nat.sub_self, Nat.pow_zero, Nat.mul_one]
          have ha1 := and_one_small od (by omega)
          rw [q2] at ha1
          rw [← hE]
          have kd := fun w => rdigits_any (od + 1) od (by omega) (by omega) w
          have l1 := (decDigits_len od).2 (by omega)
          obtain ⟨DM, hDM⟩ : ∃ D, D = Lib.decDigits od := ⟨_, rfl⟩
          rw [← hDM] at kd l1
          have hF := HF.out
          rw [← hDM] at hF
          obtain ⟨BM, hBM⟩ : ∃ z : ByteArray, z = ⟨DM.toArray⟩ := ⟨_, rfl⟩
          have s1 : BM.size ≤ 20 := by
            rw [hBM, ba_size]
            exact l1
          rw [← hBM] at kd
          have hG := HB
          by_cases k1 : E < 0
          · have ke := fun w => rdigits_any (E.natAbs + 1) E.natAbs (by omega) (by omega) w
            have l2 := (decDigits_len E.natAbs).2 (by omega)
            obtain ⟨DE, hDE⟩ : ∃ D, D = Lib.decDigits E.natAbs := ⟨_, rfl⟩
            rw [← hDE] at ke l2
            have hI : Lib.itoa E = 45 :: DE := by
              unfold Lib.itoa
              rw [if_pos k1, hDE]
            rw [hI] at hF
            obtain ⟨BE, hBE⟩ : ∃ z : ByteArray, z = ⟨DE.toArray⟩ := ⟨_, rfl⟩
            have s2 : BE.size ≤ 20 := by
              rw [hBE, ba_size]
              exact l2
            rw [← hBE] at ke
            have HV : Hid ((({ data := #[] } : ByteArray) ++ BM ++ { data := #[112, 45] }) ++ BE = ⟨L.toArray⟩) := by
              show (({ data := #[] } : ByteArray) ++ BM ++ { data := #[112, 45] }) ++ BE = ⟨L.toArray⟩
              rw [hF, hBM, hBE]
              apply ByteArray.ext
              simp
            have w7 : IntKind.i64.wrap (-E) = -E := by
              rw [IntKind.wrap_i64]
              omega
            have w8 : IntKind.u64.wrap (-E) = ((E.natAbs : Nat) : Int) := by
              rw [IntKind.wrap_u64]
              omega
            obtain ⟨na, hna⟩ : ∃ n, n = E.natAbs := ⟨_, rfl⟩
            rw [← hna] at ke w8
            clear w6 hE he0 he1 c hj HM HF hF hDM hBM hDE hBE hI l1 l2 hna q2 q3 hodm hm1 hm0 ka
            go_wp2_with (first | (go_at_call 35; first | (with_reducible (refine (kd _).mono ?_); rintro _ _ ⟨rfl, hb⟩; replace hG := Lib.hid (grow_trans hG.out hb); clear hb) | (with_reducible (refine (ke _).mono ?_); rintro _ _ ⟨rfl, hb⟩; replace hG := Lib.hid (grow_trans hG.out hb); clear hb)))
            go_ret
            exact ⟨by rw [← HV.out]; rfl, hG.out⟩
          · have ke := fun w => rdigits_any (E.toNat + 1) E.toNat (by omega) (by omega) w
            have l2 := (decDigits_len E.toNat).2 (by omega)
            obtain ⟨DE, hDE⟩ : ∃ D, D = Lib.decDigits E.toNat := ⟨_, rfl⟩
            rw [← hDE] at ke l2
            have hI : Lib.itoa E = DE := by
              unfold Lib.itoa
              rw [if_neg k1, hDE]
            rw [hI] at hF
            obtain ⟨BE, hBE⟩ : ∃ z : ByteArray, z = ⟨DE.toArray⟩ := ⟨_, rfl⟩
            have s2 : BE.size ≤ 20 := by
              rw [hBE, ba_size]
              exact l2
            rw [← hBE] at ke
            have HV : Hid ((({ data := #[] } : ByteArray) ++ BM ++ { data := #[112] }) ++ BE = ⟨L.toArray⟩) := by
              show (({ data := #[] } : ByteArray) ++ BM ++ { data := #[112] }) ++ BE = ⟨L.toArray⟩
              rw [hF, hBM, hBE]
              apply ByteArray.ext
              simp
            have w8 : IntKind.u64.wrap E = ((E.toNat : Nat) : Int) := by
              rw [IntKind.wrap_u64]
              omega
            obtain ⟨na, hna⟩ : ∃ n, n = E.toNat := ⟨_, rfl⟩
            rw [← hna] at ke w8
            clear w6 hE he0 he1 c hj HM HF hF hDM hBM hDE hBE hI l1 l2 hna q2 q3 hodm hm1 hm0 ka
            go_wp2_with (first | (go_at_call 35; first | (with_reducible (refine (kd _).mono ?_); rintro _ _ ⟨rfl, hb⟩; replace hG := Lib.hid (grow_trans hG.out hb); clear hb) | (with_reducible (refine (ke _).mono ?_); rintro _ _ ⟨rfl, hb⟩; replace hG := Lib.hid (grow_trans hG.out hb); clear hb)))
            go_ret
            exact ⟨by rw [← HV.out]; rfl, hG.out⟩
end Go.Proofs.YtiidkgdlngcpgaaGreatDoor

namespace Go.Proofs.YtiidkgdlngcpgaaGreatDoor

theorem two_words {x q r : Nat} (h : x = q * 18446744073709551616 + r) (hr : r < 18446744073709551616) : x / 18446744073709551616 = q ∧ x % 18446744073709551616 = r := by omega

theorem mul_split {h l P Q c d W : Nat} (hW : P * Q = W) (hl : l = c * Q + d) (hd : d < Q) (hP : 0 < P) : (h * W + l) * P = (h * P + c) * W + d * P ∧ d * P < W ∧ l * P = c * W + d * P := by
  subst hl
  have e : c * Q * P = c * W := by rw [← hW, Nat.mul_assoc, Nat.mul_comm Q P]
  refine ⟨?_, ?_, ?_⟩
  · rw [Nat.add_mul, Nat.add_mul, Nat.add_mul, e, Nat.mul_right_comm h W P, Nat.add_assoc]
  · rw [← hW, Nat.mul_comm P Q]
    exact Nat.mul_lt_mul_of_pos_right hd hP
  · rw [Nat.add_mul, e]

/-- a shift to the left by 1 to 63 -/
theorem left_words {n k : Nat} (hk0 : 0 < k) (hk : k < 64) (hn : n * 2 ^ k < 340282366920938463463374607431768211456) :
    (n / 18446744073709551616 * 2 ^ k) % 18446744073709551616 ||| (n % 18446744073709551616) / 2 ^ (64 - k) = n * 2 ^ k / 18446744073709551616 ∧
    (n % 18446744073709551616) * 2 ^ k % 18446744073709551616 = n * 2 ^ k % 18446744073709551616 := by
  have hW : 2 ^ k * 2 ^ (64 - k) = 18446744073709551616 := by
    rw [← Nat.pow_add, show k + (64 - k) = 64 by omega]
  obtain ⟨P, hP⟩ : ∃ P, P = 2 ^ k := ⟨_, rfl⟩
  obtain ⟨Q, hQ⟩ : ∃ Q, Q = 2 ^ (64 - k) := ⟨_, rfl⟩
  have hP0 : 0 < P := by rw [hP]; exact Nat.two_pow_pos k
  have hQ0 : 0 < Q := by rw [hQ]; exact Nat.two_pow_pos _
  rw [← hP] at hn
  rw [← hP, ← hQ] at hW
  obtain ⟨h, hh⟩ : ∃ h, h = n / 18446744073709551616 := ⟨_, rfl⟩
  obtain ⟨l, hl⟩ : ∃ l, l = n % 18446744073709551616 := ⟨_, rfl⟩
  have hnl : n = h * 18446744073709551616 + l := by omega
  have hll : l < 18446744073709551616 := by omega
  have hc : l = l / Q * Q + l % Q := by
    have := Nat.div_add_mod l Q
    rw [Nat.mul_comm] at this
    exact this.symm
  obtain ⟨h1, h2, h3⟩ := mul_split (h := h) hW hc (Nat.mod_lt l hQ0) hP0
  rw [← hnl] at h1
  obtain ⟨e1, e2⟩ := two_words h1 h2
  have hlt : h * P < 18446744073709551616 := by
    have : h * P + l / Q < 18446744073709551616 := by
      rw [← e1]
      omega
    omega
  have hcP : l / Q < P := by
    refine Nat.div_lt_of_lt_mul ?_
    rw [Nat.mul_comm, hW]
    exact hll
  rw [← hh, ← hl, ← hP, ← hQ, Nat.mod_eq_of_lt hlt, e1, e2]
  refine ⟨?_, ?_⟩
  · refine nat_join k _ _ ?_ (by rw [← hP]; exact hcP)
    rw [← hP]
    exact Nat.mul_mod_left h P
  · rw [h3]
    omega
/-- a shift to the left by 64 to 127 -/
theorem left_far {n k : Nat} (hk0 : 64 ≤ k) (hn : n * 2 ^ k < 340282366920938463463374607431768211456) :
    (n % 18446744073709551616) * 2 ^ (k - 64) % 18446744073709551616 = n * 2 ^ k / 18446744073709551616 ∧ n * 2 ^ k % 18446744073709551616 = 0 := by
  have hW : 2 ^ k = 2 ^ (k - 64) * 18446744073709551616 := by
    rw [show (18446744073709551616 : Nat) = 2 ^ 64 from rfl, ← Nat.pow_add, show k - 64 + 64 = k by omega]
  have hP0 := Nat.two_pow_pos (k - 64)
  obtain ⟨P, hP⟩ : ∃ P, P = 2 ^ (k - 64) := ⟨_, rfl⟩
  rw [← hP] at hW hP0
  rw [hW, ← Nat.mul_assoc] at hn
  have h1 : n * P < 18446744073709551616 := by omega
  have h2 : n ≤ n * P := Nat.le_mul_of_pos_right n hP0
  rw [hW, ← hP, ← Nat.mul_assoc, Nat.mod_eq_of_lt (show n < 18446744073709551616 by omega)]
  omega
/-- a shift to the right by 1 to 63 -/
theorem right_words {n k : Nat} (hk0 : 0 < k) (hk : k < 64) (hn : n < 340282366920938463463374607431768211456) :
    (n / 18446744073709551616) / 2 ^ k = n / 2 ^ k / 18446744073709551616 ∧
    (n % 18446744073709551616) / 2 ^ k ||| (n / 18446744073709551616 * 2 ^ (64 - k)) % 18446744073709551616 = n / 2 ^ k % 18446744073709551616 := by
  have hW : 2 ^ k * 2 ^ (64 - k) = 18446744073709551616 := by
    rw [← Nat.pow_add, show k + (64 - k) = 64 by omega]
  obtain ⟨P, hP⟩ : ∃ P, P = 2 ^ k := ⟨_, rfl⟩
  obtain ⟨Q, hQ⟩ : ∃ Q, Q = 2 ^ (64 - k) := ⟨_, rfl⟩
  have hP0 : 0 < P := by rw [hP]; exact Nat.two_pow_pos k
  have hQ0 : 0 < Q := by rw [hQ]; exact Nat.two_pow_pos _
  rw [← hP, ← hQ] at hW
  obtain ⟨h, hh⟩ : ∃ h, h = n / 18446744073709551616 := ⟨_, rfl⟩
  obtain ⟨l, hl⟩ : ∃ l, l = n % 18446744073709551616 := ⟨_, rfl⟩
  have hnl : n = h * 18446744073709551616 + l := by omega
  have hll : l < 18446744073709551616 := by omega
  rw [← hP, ← hQ, ← hh, ← hl]
  have hdiv : n / P = h * Q + l / P := by
    rw [hnl, ← hW, Nat.mul_comm P Q, ← Nat.mul_assoc, Nat.add_comm, Nat.add_mul_div_right _ _ hP0, Nat.add_comm]
  have hlQ : l / P < Q := by
    refine Nat.div_lt_of_lt_mul ?_
    rw [hW]
    exact hll
  have hc : h = h / P * P + h % P := by
    have := Nat.div_add_mod h P
    rw [Nat.mul_comm] at this
    exact this.symm
  have hPQ : P * Q = 18446744073709551616 := hW
  obtain ⟨h1, h2, h3⟩ := mul_split (h := 0) (l := h) (P := Q) (Q := P) (c := h / P) (d := h % P) (W := 18446744073709551616) ((Nat.mul_comm Q P).trans hPQ) hc (Nat.mod_lt h hP0) hQ0
  have hmod : h * Q % 18446744073709551616 = h % P * Q := by
    rw [h3]
    omega
  have hsum : h % P * Q + l / P < 18446744073709551616 := by
    have hm : h % P < P := Nat.mod_lt h hP0
    have : (h % P + 1) * Q ≤ P * Q := Nat.mul_le_mul_right Q hm
    rw [Nat.add_mul, Nat.one_mul] at this
    omega
  have htot : n / P = h / P * 18446744073709551616 + (h % P * Q + l / P) := by
    rw [hdiv, h3]
    omega
  obtain ⟨e1, e2⟩ := two_words htot hsum
  rw [e1, e2, hmod]
  refine ⟨rfl, ?_⟩
  rw [Nat.or_comm, nat_join (64 - k) (h % P * Q) (l / P) ?_ (by rw [← hQ]; exact hlQ)]
  rw [← hQ]
  exact Nat.mul_mod_left _ Q
/-- a shift to the right by 64 to 127 -/
theorem right_far {n k : Nat} (hk0 : 64 ≤ k) (hk : k < 128) (hn : n < 340282366920938463463374607431768211456) :
    (n / 18446744073709551616) / 2 ^ (k - 64) = n / 2 ^ k % 18446744073709551616 ∧ n / 2 ^ k / 18446744073709551616 = 0 := by
  have hW : 2 ^ k = 18446744073709551616 * 2 ^ (k - 64) := by
    rw [show (18446744073709551616 : Nat) = 2 ^ 64 from rfl, ← Nat.pow_add, show 64 + (k - 64) = k by omega]
  have h1 : n / 2 ^ k = n / 18446744073709551616 / 2 ^ (k - 64) := by
    rw [hW, Nat.div_div_eq_div_mul]
  have h2 : n / 18446744073709551616 < 18446744073709551616 := by omega
  have h3 : n / 18446744073709551616 / 2 ^ (k - 64) ≤ n / 18446744073709551616 := Nat.div_le_self _ _
  rw [h1]
  generalize n / 18446744073709551616 / 2 ^ (k - 64) = x at h3 ⊢
  omega

theorem plus_words {a b : Nat} (_ : a + b < 340282366920938463463374607431768211456) :
    ((a % 18446744073709551616 + b % 18446744073709551616) % 18446744073709551616 = (a + b) % 18446744073709551616) ∧
    (((a % 18446744073709551616 + b % 18446744073709551616) % 18446744073709551616 < a % 18446744073709551616 → (a / 18446744073709551616 + b / 18446744073709551616 + 1) = (a + b) / 18446744073709551616) ∧
     (¬ (a % 18446744073709551616 + b % 18446744073709551616) % 18446744073709551616 < a % 18446744073709551616 → (a / 18446744073709551616 + b / 18446744073709551616) = (a + b) / 18446744073709551616)) := by
  refine ⟨by omega, ?_, ?_⟩ <;> intro <;> omega
theorem minus_words {a b : Nat} (h : b ≤ a) :
    (a % 18446744073709551616 < b % 18446744073709551616 → (a / 18446744073709551616 - b / 18446744073709551616 - 1) = (a - b) / 18446744073709551616 ∧ b / 18446744073709551616 + 1 ≤ a / 18446744073709551616 ∧ a % 18446744073709551616 + 18446744073709551616 - b % 18446744073709551616 = (a - b) % 18446744073709551616) ∧
    (¬ a % 18446744073709551616 < b % 18446744073709551616 → (a / 18446744073709551616 - b / 18446744073709551616) = (a - b) / 18446744073709551616 ∧ b / 18446744073709551616 ≤ a / 18446744073709551616 ∧ a % 18446744073709551616 - b % 18446744073709551616 = (a - b) % 18446744073709551616) := by
  refine ⟨?_, ?_⟩ <;> intro <;> omega
end Go.Proofs.YtiidkgdlngcpgaaGreatDoor

namespace Go.Proofs.YtiidkgdlngcpgaaGreatDoor
open Ieee

theorem bitLen_half {x : Nat} (h : x ≠ 0) : bitLen x = bitLen (x / 2) + 1 := by
  unfold bitLen
  rw [if_neg h]
  by_cases h1 : x = 1
  · subst h1
    rfl
  · have h2 : x / 2 ≠ 0 := by omega
    rw [if_neg h2]
    congr 1
    rw [Nat.log2_def, if_pos (by omega)]
theorem bitLen_step {n i : Nat} (h : n / 2 ^ i ≠ 0) (hb : bitLen n = i + bitLen (n / 2 ^ i)) : bitLen n = (i + 1) + bitLen (n / 2 ^ (i + 1)) := by
  rw [hb, bitLen_half h, Nat.pow_succ, ← Nat.div_div_eq_div_mul]
  omega
theorem bitLen_le {n k : Nat} (h : n < 2 ^ k) : bitLen n ≤ k := by
  unfold bitLen
  split
  · omega
  · rename_i h0
    have := (Nat.log2_lt h0).2 h
    omega
theorem lt_bitLen (n : Nat) : n < 2 ^ bitLen n := by
  unfold bitLen
  split
  · rename_i h
    subst h
    decide
  · exact Nat.lt_log2_self
/-- one more bit of a product -/
theorem times_step {a b i : Nat} : a * (b % 2 ^ (i + 1)) = if b / 2 ^ i % 2 = 1 then a * (b % 2 ^ i) + a * 2 ^ i else a * (b % 2 ^ i) := by
  rw [Nat.mod_pow_succ]
  split
  · rename_i h
    rw [h, Nat.mul_one, Nat.mul_add]
  · have : b / 2 ^ i % 2 = 0 := by omega
    rw [this, Nat.mul_zero, Nat.add_zero]
/-- one more bit of a quotient -/
theorem quo_bit {x n bit : Nat} (hb : bit < 2) (hn : 0 < n) : (if n ≤ 2 * (x % n) + bit then (2 * x + bit) / n = 2 * (x / n) + 1 ∧ (2 * x + bit) % n = 2 * (x % n) + bit - n else (2 * x + bit) / n = 2 * (x / n) ∧ (2 * x + bit) % n = 2 * (x % n) + bit) := by
  have h1 := Nat.div_add_mod x n
  have h2 := Nat.mod_lt x hn
  obtain ⟨q, hq⟩ : ∃ q, q = x / n := ⟨_, rfl⟩
  obtain ⟨r, hr⟩ : ∃ r, r = x % n := ⟨_, rfl⟩
  rw [← hq, ← hr] at h1
  rw [← hr] at h2
  rw [← hq, ← hr]
  have e : 2 * x + bit = n * (2 * q) + (2 * r + bit) := by
    have : n * (2 * q) = 2 * (n * q) := Nat.mul_left_comm n 2 q
    omega
  split
  · rename_i h
    have e2 : 2 * x + bit = (2 * r + bit - n) + n * (2 * q + 1) := by
      rw [Nat.mul_add, Nat.mul_one]
      omega
    rw [e2, Nat.add_mul_div_left _ _ hn, Nat.add_mul_mod_self_left]
    have h3 : 2 * r + bit - n < n := by omega
    rw [Nat.div_eq_of_lt h3, Nat.mod_eq_of_lt h3]
    exact ⟨by omega, rfl⟩
  · rename_i h
    have e2 : 2 * x + bit = (2 * r + bit) + n * (2 * q) := by omega
    rw [e2, Nat.add_mul_div_left _ _ hn, Nat.add_mul_mod_self_left]
    have h3 : 2 * r + bit < n := by omega
    rw [Nat.div_eq_of_lt h3, Nat.mod_eq_of_lt h3]
    exact ⟨by omega, rfl⟩
theorem next_bit (w i : Nat) : w / 2 ^ i = 2 * (w / 2 ^ (i + 1)) + w / 2 ^ i % 2 := by
  rw [Nat.pow_succ, ← Nat.div_div_eq_div_mul]
  omega

/-- bounds of what is rounded -/
theorem rnd_left {w : Nat} {e : Int} (h : rndQ w e - e ≤ 0) : w * 2 ^ (e - rndQ w e).toNat < 9007199254740992 ∧ (e - rndQ w e).toNat ≤ 53 := by
  have hL := lt_bitLen w
  have hk : (e - rndQ w e).toNat + bitLen w ≤ 53 := by
    unfold rndQ at h ⊢
    split at h
    · rename_i h1
      rw [if_pos h1]
      omega
    · rename_i h1
      rw [if_neg h1]
      omega
  refine ⟨?_, by omega⟩
  have h1 : w * 2 ^ (e - rndQ w e).toNat < 2 ^ bitLen w * 2 ^ (e - rndQ w e).toNat := Nat.mul_lt_mul_of_pos_right hL (Nat.two_pow_pos _)
  rw [← Nat.pow_add] at h1
  exact Nat.lt_of_lt_of_le h1 (Nat.le_trans (Nat.pow_le_pow_right (by decide) (show bitLen w + (e - rndQ w e).toNat ≤ 53 by omega)) (by decide))
theorem rnd_right {w : Nat} {e : Int} (h : 0 < rndQ w e - e) : w / 2 ^ (rndQ w e - e).toNat < 9007199254740992 := by
  have hL := lt_bitLen w
  have hk : bitLen w ≤ 53 + (rndQ w e - e).toNat := by
    unfold rndQ at h ⊢
    split
    · rename_i h1
      rw [if_pos h1] at h
      omega
    · rename_i h1
      rw [if_neg h1] at h
      omega
  refine Nat.div_lt_of_lt_mul ?_
  refine Nat.lt_of_lt_of_le hL ?_
  rw [Nat.mul_comm, show (9007199254740992 : Nat) = 2 ^ 53 from rfl, ← Nat.pow_add]
  exact Nat.pow_le_pow_right (by decide) hk
theorem cut_is (w n : Nat) : w - w / 2 ^ n * 2 ^ n = w % 2 ^ n ∧ w / 2 ^ n * 2 ^ n ≤ w := by
  have h := Nat.div_add_mod w (2 ^ n)
  rw [Nat.mul_comm] at h
  omega
end Go.Proofs.YtiidkgdlngcpgaaGreatDoor

namespace Go.Proofs.YtiidkgdlngcpgaaGreatDoor
open Go.RowKit

/-- a whole number of 128 bits as the code has it -/
def wv (n : Nat) : Value := .agg #[.int .u64 (((n) / 18446744073709551616 : Nat) : Int), .int .u64 (((n) % 18446744073709551616 : Nat) : Int)]

theorem bel_alloc {w x : World} (h : Below w.heap.size w x) (o : Obj) : Below w.heap.size w (x.alloc o) := h.alloc h.size o

theorem shl_fact (a k : Nat) : IntKind.u64.wrap (((a : Nat) : Int) * 2 ^ k) = ((a * 2 ^ k % 18446744073709551616 : Nat) : Int) := by
  rw [IntKind.wrap_u64]
  have h : ((a : Nat) : Int) * 2 ^ k = ((a * 2 ^ k : Nat) : Int) := by
    rw [Int.natCast_mul, Int.natCast_pow]
    rfl
  rw [h]
  omega
theorem shr_fact (a k : Nat) : ((a : Nat) : Int) / 2 ^ k = ((a / 2 ^ k : Nat) : Int) := by
  have h : (2 : Int) ^ k = ((2 ^ k : Nat) : Int) := by
    rw [Int.natCast_pow]
    rfl
  rw [h]
  exact (Int.natCast_ediv _ _).symm

set_option maxHeartbeats 1000000 in
theorem wless_any {n m : Nat} (hn : n < 340282366920938463463374607431768211456) (hm : m < 340282366920938463463374607431768211456) (w : World) :
    Calls Tryz.prog 140 #[wv n, wv m] w fun e w' => e = .returned (.bool (decide (n < m))) ∧ Below w.heap.size w w' := by
  unfold wv
  have HF : Hid (decide (n < m) = (decide ((((n) / 18446744073709551616 : Nat) : Int) < (((m) / 18446744073709551616 : Nat) : Int)) || (decide ((((n) / 18446744073709551616 : Nat) : Int) = (((m) / 18446744073709551616 : Nat) : Int)) && decide ((((n) % 18446744073709551616 : Nat) : Int) < (((m) % 18446744073709551616 : Nat) : Int))))) := by
    rw [← Bool.decide_and, ← Bool.decide_or]
    exact decide_eq_decide.2 (by omega)
  clear hn hm
  obtain ⟨a, hva⟩ : ∃ z : Int, z = (((n) / 18446744073709551616 : Nat) : Int) := ⟨_, rfl⟩
  rw [← hva] at HF ⊢
  clear hva
  obtain ⟨b, hvb⟩ : ∃ z : Int, z = (((n) % 18446744073709551616 : Nat) : Int) := ⟨_, rfl⟩
  rw [← hvb] at HF ⊢
  clear hvb
  obtain ⟨c, hvc⟩ : ∃ z : Int, z = (((m) / 18446744073709551616 : Nat) : Int) := ⟨_, rfl⟩
  rw [← hvc] at HF ⊢
  clear hvc
  obtain ⟨d, hvd⟩ : ∃ z : Int, z = (((m) % 18446744073709551616 : Nat) : Int) := ⟨_, rfl⟩
  rw [← hvd] at HF ⊢
  clear hvd
  by_cases c1 : a < c
  · go_enter Tryz.func140, Tryz.ntmps140
    go_wp2
    go_ret
    exact ⟨by rw [HF.out]; simp [c1], bel_alloc (bel_alloc (Below.refl _ _) _) _⟩
  · by_cases c2 : a = c
    · go_enter Tryz.func140, Tryz.ntmps140
      go_wp2
      go_ret
      exact ⟨by rw [HF.out]; simp [c2], bel_alloc (bel_alloc (Below.refl _ _) _) _⟩
    · go_enter Tryz.func140, Tryz.ntmps140
      go_wp2
      go_ret
      exact ⟨by rw [HF.out]; simp [c1, c2], bel_alloc (bel_alloc (Below.refl _ _) _) _⟩


set_option maxHeartbeats 1000000 in
theorem wminus_any {n m : Nat} (h : m ≤ n) (hn : n < 340282366920938463463374607431768211456) (w : World) :
    Calls Tryz.prog 139 #[wv n, wv m] w fun e w' => e = .returned (wv (n - m)) ∧ Below w.heap.size w w' := by
  unfold wv
  have hl : IntKind.u64.wrap ((((n) % 18446744073709551616 : Nat) : Int) - (((m) % 18446744073709551616 : Nat) : Int)) = (((n - m) % 18446744073709551616 : Nat) : Int) := by
    rw [IntKind.wrap_u64]
    omega
  by_cases c1 : n % 18446744073709551616 < m % 18446744073709551616
  · have hh : IntKind.u64.wrap (IntKind.u64.wrap ((((n) / 18446744073709551616 : Nat) : Int) - (((m) / 18446744073709551616 : Nat) : Int)) - 1) = (((n - m) / 18446744073709551616 : Nat) : Int) := by
      rw [IntKind.wrap_u64, IntKind.wrap_u64]
      omega
    have c2 : (((n) % 18446744073709551616 : Nat) : Int) < (((m) % 18446744073709551616 : Nat) : Int) := by omega
    clear c1 h
    obtain ⟨x, hvx⟩ : ∃ z : Int, z = (((n - m) % 18446744073709551616 : Nat) : Int) := ⟨_, rfl⟩
    rw [← hvx] at hl ⊢
    clear hvx
    obtain ⟨y, hvy⟩ : ∃ z : Int, z = (((n - m) / 18446744073709551616 : Nat) : Int) := ⟨_, rfl⟩
    rw [← hvy] at hh ⊢
    clear hvy
    obtain ⟨a, hva⟩ : ∃ z : Int, z = (((n) / 18446744073709551616 : Nat) : Int) := ⟨_, rfl⟩
    rw [← hva] at hh ⊢
    clear hva
    obtain ⟨b, hvb⟩ : ∃ z : Int, z = (((n) % 18446744073709551616 : Nat) : Int) := ⟨_, rfl⟩
    rw [← hvb] at hl c2 ⊢
    clear hvb
    obtain ⟨c, hvc⟩ : ∃ z : Int, z = (((m) / 18446744073709551616 : Nat) : Int) := ⟨_, rfl⟩
    rw [← hvc] at hh ⊢
    clear hvc
    obtain ⟨d, hvd⟩ : ∃ z : Int, z = (((m) % 18446744073709551616 : Nat) : Int) := ⟨_, rfl⟩
    rw [← hvd] at hl c2 ⊢
    clear hvd
    go_enter Tryz.func139, Tryz.ntmps139
    go_wp2
    refine bodyPost_ret (v := .agg #[.int .u64 y, .int .u64 x]) (by simp [results, Tryz.results139, go_sem]) rfl ?_
    exact ⟨rfl, bel_alloc (bel_alloc (bel_alloc (Below.refl _ _) _) _) _⟩
  · have hh : IntKind.u64.wrap ((((n) / 18446744073709551616 : Nat) : Int) - (((m) / 18446744073709551616 : Nat) : Int)) = (((n - m) / 18446744073709551616 : Nat) : Int) := by
      rw [IntKind.wrap_u64]
      omega
    have c2 : ¬ (((n) % 18446744073709551616 : Nat) : Int) < (((m) % 18446744073709551616 : Nat) : Int) := by omega
    clear c1 h
    obtain ⟨x, hvx⟩ : ∃ z : Int, z = (((n - m) % 18446744073709551616 : Nat) : Int) := ⟨_, rfl⟩
    rw [← hvx] at hl ⊢
    clear hvx
    obtain ⟨y, hvy⟩ : ∃ z : Int, z = (((n - m) / 18446744073709551616 : Nat) : Int) := ⟨_, rfl⟩
    rw [← hvy] at hh ⊢
    clear hvy
    obtain ⟨a, hva⟩ : ∃ z : Int, z = (((n) / 18446744073709551616 : Nat) : Int) := ⟨_, rfl⟩
    rw [← hva] at hh ⊢
    clear hva
    obtain ⟨b, hvb⟩ : ∃ z : Int, z = (((n) % 18446744073709551616 : Nat) : Int) := ⟨_, rfl⟩
    rw [← hvb] at hl c2 ⊢
    clear hvb
    obtain ⟨c, hvc⟩ : ∃ z : Int, z = (((m) / 18446744073709551616 : Nat) : Int) := ⟨_, rfl⟩
    rw [← hvc] at hh ⊢
    clear hvc
    obtain ⟨d, hvd⟩ : ∃ z : Int, z = (((m) % 18446744073709551616 : Nat) : Int) := ⟨_, rfl⟩
    rw [← hvd] at hl c2 ⊢
    clear hvd
    go_enter Tryz.func139, Tryz.ntmps139
    go_wp2
    refine bodyPost_ret (v := .agg #[.int .u64 y, .int .u64 x]) (by simp [results, Tryz.results139, go_sem]) rfl ?_
    exact ⟨rfl, bel_alloc (bel_alloc (bel_alloc (Below.refl _ _) _) _) _⟩

set_option maxHeartbeats 2000000 in
theorem wleft_any {n k : Nat} (hk : k < 128) (hn : n * 2 ^ k < 340282366920938463463374607431768211456) (w : World) :
    Calls Tryz.prog 137 #[wv n, .int .i64 ((k : Nat) : Int)] w fun e w' => e = .returned (wv (n * 2 ^ k)) ∧ Below w.heap.size w w' := by
  unfold wv
  by_cases h64 : 64 ≤ k
  · obtain ⟨e1, e2⟩ := left_far h64 hn
    have g0 := shl_fact (n % 18446744073709551616) (k - 64)
    rw [e1] at g0
    rw [e2]
    obtain ⟨L, hvL⟩ : ∃ z : Int, z = (((n) % 18446744073709551616 : Nat) : Int) := ⟨_, rfl⟩
    rw [← hvL] at g0 ⊢
    clear hvL
    obtain ⟨R, hvR⟩ : ∃ z : Int, z = (((n * 2 ^ k) / 18446744073709551616 : Nat) : Int) := ⟨_, rfl⟩
    rw [← hvR] at g0 ⊢
    clear hvR
    clear e1 e2 hn
    have hK : (((k : Nat) : Int) - 64).toNat = k - 64 := by omega
    have k1 : (64 : Int) ≤ ((k : Nat) : Int) := by omega
    have k2 : ((k : Nat) : Int) < 128 := by omega
    have hw : IntKind.i64.wrap (((k : Nat) : Int) - 64) = ((k : Nat) : Int) - 64 := by
      rw [IntKind.wrap_i64]
      omega
    go_enter Tryz.func137, Tryz.ntmps137
    go_wp2
    refine bodyPost_ret (v := .agg #[.int .u64 R, .int .u64 0]) (by simp [results, Tryz.results137, go_sem]) rfl ?_
    exact ⟨rfl, bel_alloc (bel_alloc (Below.refl _ _) _) _⟩
  · by_cases h0 : k = 0
    · subst h0
      rw [Nat.pow_zero, Nat.mul_one]
      clear hn
      obtain ⟨H, hvH⟩ : ∃ z : Int, z = (((n) / 18446744073709551616 : Nat) : Int) := ⟨_, rfl⟩
      rw [← hvH] at ⊢
      clear hvH
      obtain ⟨L, hvL⟩ : ∃ z : Int, z = (((n) % 18446744073709551616 : Nat) : Int) := ⟨_, rfl⟩
      rw [← hvL] at ⊢
      clear hvL
      go_enter Tryz.func137, Tryz.ntmps137
      go_wp2
      refine bodyPost_ret (v := .agg #[.int .u64 H, .int .u64 L]) (by simp [results, Tryz.results137, go_sem]) rfl ?_
      exact ⟨rfl, bel_alloc (bel_alloc (Below.refl _ _) _) _⟩
    · obtain ⟨e1, e2⟩ := left_words (k := k) (by omega) (by omega) hn
      have g1 := shl_fact (n / 18446744073709551616) k
      have g2 := shr_fact (n % 18446744073709551616) (64 - k)
      have g3 : bits .or .u64 (((n / 18446744073709551616 * 2 ^ k % 18446744073709551616 : Nat)) : Int) (((n % 18446744073709551616 / 2 ^ (64 - k) : Nat)) : Int) = (((n * 2 ^ k) / 18446744073709551616 : Nat) : Int) := by
        rw [← e1]
        exact u64_or_nat _ _ (by omega) (Nat.lt_of_le_of_lt (Nat.div_le_self _ _) (by omega))
      have g4 := shl_fact (n % 18446744073709551616) k
      rw [e2] at g4
      clear e1 e2 hn
      obtain ⟨A, hvA⟩ : ∃ z : Int, z = (((n / 18446744073709551616 * 2 ^ k % 18446744073709551616 : Nat)) : Int) := ⟨_, rfl⟩
      rw [← hvA] at g1 g3
      clear hvA
      obtain ⟨B, hvB⟩ : ∃ z : Int, z = (((n % 18446744073709551616 / 2 ^ (64 - k) : Nat)) : Int) := ⟨_, rfl⟩
      rw [← hvB] at g2 g3
      clear hvB
      obtain ⟨R1, hvR1⟩ : ∃ z : Int, z = (((n * 2 ^ k) / 18446744073709551616 : Nat) : Int) := ⟨_, rfl⟩
      rw [← hvR1] at g3 ⊢
      clear hvR1
      obtain ⟨R2, hvR2⟩ : ∃ z : Int, z = (((n * 2 ^ k) % 18446744073709551616 : Nat) : Int) := ⟨_, rfl⟩
      rw [← hvR2] at g4 ⊢
      clear hvR2
      obtain ⟨H, hvH⟩ : ∃ z : Int, z = (((n) / 18446744073709551616 : Nat) : Int) := ⟨_, rfl⟩
      rw [← hvH] at g1 ⊢
      clear hvH
      obtain ⟨L, hvL⟩ : ∃ z : Int, z = (((n) % 18446744073709551616 : Nat) : Int) := ⟨_, rfl⟩
      rw [← hvL] at g2 g4 ⊢
      clear hvL
      have hK : ((64 : Int) - ((k : Nat) : Int)).toNat = 64 - k := by omega
      have k1 : (0 : Int) < ((k : Nat) : Int) := by omega
      have k2 : ((k : Nat) : Int) < 64 := by omega
      have k3 : ¬ ((k : Nat) : Int) = 0 := by omega
      have hw : IntKind.i64.wrap ((64 : Int) - ((k : Nat) : Int)) = (64 : Int) - ((k : Nat) : Int) := by
        rw [IntKind.wrap_i64]
        omega
      go_enter Tryz.func137, Tryz.ntmps137
      go_wp2
      go_region
      go_wp2
      refine bodyPost_ret (v := .agg #[.int .u64 R1, .int .u64 R2]) (by simp [results, Tryz.results137, go_sem]) rfl ?_
      exact ⟨rfl, below_drewN ( bel_alloc (bel_alloc (Below.refl _ _) _) _) _⟩

set_option maxHeartbeats 2000000 in
theorem wright_any {n k : Nat} (hk : k < 128) (hn : n < 340282366920938463463374607431768211456) (w : World) :
    Calls Tryz.prog 138 #[wv n, .int .i64 ((k : Nat) : Int)] w fun e w' => e = .returned (wv (n / 2 ^ k)) ∧ Below w.heap.size w w' := by
  unfold wv
  by_cases h64 : 64 ≤ k
  · obtain ⟨e1, e2⟩ := right_far h64 hk hn
    have g0 := shr_fact (n / 18446744073709551616) (k - 64)
    rw [e1] at g0
    rw [e2]
    obtain ⟨H, hvH⟩ : ∃ z : Int, z = (((n) / 18446744073709551616 : Nat) : Int) := ⟨_, rfl⟩
    rw [← hvH] at g0 ⊢
    clear hvH
    obtain ⟨R, hvR⟩ : ∃ z : Int, z = (((n / 2 ^ k) % 18446744073709551616 : Nat) : Int) := ⟨_, rfl⟩
    rw [← hvR] at g0 ⊢
    clear hvR
    clear e1 e2 hn
    have hK : (((k : Nat) : Int) - 64).toNat = k - 64 := by omega
    have k1 : (64 : Int) ≤ ((k : Nat) : Int) := by omega
    have k2 : ((k : Nat) : Int) < 128 := by omega
    have hw : IntKind.i64.wrap (((k : Nat) : Int) - 64) = ((k : Nat) : Int) - 64 := by
      rw [IntKind.wrap_i64]
      omega
    go_enter Tryz.func138, Tryz.ntmps138
    go_wp2
    refine bodyPost_ret (v := .agg #[.int .u64 0, .int .u64 R]) (by simp [results, Tryz.results138, go_sem]) rfl ?_
    exact ⟨rfl, bel_alloc (bel_alloc (Below.refl _ _) _) _⟩
  · by_cases h0 : k = 0
    · subst h0
      rw [Nat.pow_zero, Nat.div_one]
      clear hn
      obtain ⟨H, hvH⟩ : ∃ z : Int, z = (((n) / 18446744073709551616 : Nat) : Int) := ⟨_, rfl⟩
      rw [← hvH] at ⊢
      clear hvH
      obtain ⟨L, hvL⟩ : ∃ z : Int, z = (((n) % 18446744073709551616 : Nat) : Int) := ⟨_, rfl⟩
      rw [← hvL] at ⊢
      clear hvL
      go_enter Tryz.func138, Tryz.ntmps138
      go_wp2
      refine bodyPost_ret (v := .agg #[.int .u64 H, .int .u64 L]) (by simp [results, Tryz.results138, go_sem]) rfl ?_
      exact ⟨rfl, bel_alloc (bel_alloc (Below.refl _ _) _) _⟩
    · obtain ⟨e1, e2⟩ := right_words (k := k) (by omega) (by omega) hn
      have g1 := shr_fact (n / 18446744073709551616) k
      rw [e1] at g1
      have g2 := shr_fact (n % 18446744073709551616) k
      have g4 := shl_fact (n / 18446744073709551616) (64 - k)
      have g3 : bits .or .u64 (((n % 18446744073709551616 / 2 ^ k : Nat)) : Int) (((n / 18446744073709551616 * 2 ^ (64 - k) % 18446744073709551616 : Nat)) : Int) = (((n / 2 ^ k) % 18446744073709551616 : Nat) : Int) := by
        rw [← e2]
        exact u64_or_nat _ _ (Nat.lt_of_le_of_lt (Nat.div_le_self _ _) (by omega)) (by omega)
      clear e1 e2 hn
      obtain ⟨A, hvA⟩ : ∃ z : Int, z = (((n % 18446744073709551616 / 2 ^ k : Nat)) : Int) := ⟨_, rfl⟩
      rw [← hvA] at g2 g3
      clear hvA
      obtain ⟨B, hvB⟩ : ∃ z : Int, z = (((n / 18446744073709551616 * 2 ^ (64 - k) % 18446744073709551616 : Nat)) : Int) := ⟨_, rfl⟩
      rw [← hvB] at g4 g3
      clear hvB
      obtain ⟨R1, hvR1⟩ : ∃ z : Int, z = (((n / 2 ^ k) / 18446744073709551616 : Nat) : Int) := ⟨_, rfl⟩
      rw [← hvR1] at g1 ⊢
      clear hvR1
      obtain ⟨R2, hvR2⟩ : ∃ z : Int, z = (((n / 2 ^ k) % 18446744073709551616 : Nat) : Int) := ⟨_, rfl⟩
      rw [← hvR2] at g3 ⊢
      clear hvR2
      obtain ⟨H, hvH⟩ : ∃ z : Int, z = (((n) / 18446744073709551616 : Nat) : Int) := ⟨_, rfl⟩
      rw [← hvH] at g1 g4 ⊢
      clear hvH
      obtain ⟨L, hvL⟩ : ∃ z : Int, z = (((n) % 18446744073709551616 : Nat) : Int) := ⟨_, rfl⟩
      rw [← hvL] at g2 ⊢
      clear hvL
      have hK : ((64 : Int) - ((k : Nat) : Int)).toNat = 64 - k := by omega
      have k1 : (0 : Int) < ((k : Nat) : Int) := by omega
      have k2 : ((k : Nat) : Int) < 64 := by omega
      have k3 : ¬ ((k : Nat) : Int) = 0 := by omega
      have hw : IntKind.i64.wrap ((64 : Int) - ((k : Nat) : Int)) = (64 : Int) - ((k : Nat) : Int) := by
        rw [IntKind.wrap_i64]
        omega
      go_enter Tryz.func138, Tryz.ntmps138
      go_wp2
      go_region
      go_wp2
      refine bodyPost_ret (v := .agg #[.int .u64 R1, .int .u64 R2]) (by simp [results, Tryz.results138, go_sem]) rfl ?_
      exact ⟨rfl, below_drewN ( bel_alloc (bel_alloc (Below.refl _ _) _) _) _⟩

end Go.Proofs.YtiidkgdlngcpgaaGreatDoor

namespace Go.Proofs.YtiidkgdlngcpgaaGreatDoor
open Go.RowKit

/-- the cells of a whole number of 128 bits -/
def wc (n : Nat) : Array Value := #[.int .u64 (((n : Nat) : Int) / 18446744073709551616), .int .u64 (((n : Nat) : Int) % 18446744073709551616)]
theorem wv_wc (n : Nat) : wv n = .agg (wc n) := rfl
theorem wv_is (n : Nat) : wv n = .agg #[.int .u64 (((n : Nat) : Int) / 18446744073709551616), .int .u64 (((n : Nat) : Int) % 18446744073709551616)] := rfl
abbrev WAt (w : World) (g : Nat) (n : Nat) : Prop := Cells w g 136 (wc n)
theorem WAt.c0 {w : World} {g n : Nat} (h : WAt w g n) : w.cell? ⟨g, 0, none⟩ = some (.int .u64 (((n : Nat) : Int) / 18446744073709551616)) := h.cell (j := 0) rfl
theorem WAt.c1 {w : World} {g n : Nat} (h : WAt w g n) : w.cell? ⟨g, 1, none⟩ = some (.int .u64 (((n : Nat) : Int) % 18446744073709551616)) := h.cell (j := 1) rfl
theorem WAt.store {w : World} {g n m : Nat} (h : WAt w g n) : WAt ((w.setCell ⟨g, 0, none⟩ (.int .u64 (((m : Nat) : Int) / 18446744073709551616))).setCell ⟨g, 1, none⟩ (.int .u64 (((m : Nat) : Int) % 18446744073709551616))) g m := (h.set 0 _).set 1 _
theorem bel_store {w x : World} (h : Below w.heap.size w x) {g : Nat} (hg : w.heap.size ≤ g) (u v : Value) : Below w.heap.size w ((x.setCell ⟨g, 0, none⟩ u).setCell ⟨g, 1, none⟩ v) := (h.setCell hg u).setCell hg v

set_option maxHeartbeats 2000000 in
set_option maxRecDepth 100000 in
theorem wlength_any {n : Nat} (hn : n < 340282366920938463463374607431768211456) (w : World) :
    Calls Tryz.prog 136 #[wv n] w fun e w' => e = .returned (.int .i64 ((bitLen n : Nat) : Int)) ∧ Below w.heap.size w w' := by
  rw [wv_is]
  go_enter Tryz.func136, Tryz.ntmps136
  go_wp2
  go_loopw [3] (fun v wr => ∃ i : Nat, v = .int .i64 ((i : Nat) : Int) ∧ i ≤ 128 ∧ WAt wr w.heap.size (n / 2 ^ i) ∧ Below w.heap.size w wr ∧ Hid (bitLen n = i + bitLen (n / 2 ^ i))) (fun v _ => 129 - (intOf v).toNat)
  case atStart =>
    refine ⟨0, rfl, by omega, ?_, (Below.refl _ _).alloc (Nat.le_refl _) _, ?_⟩
    · rw [Nat.pow_zero, Nat.div_one]
      exact Cells.new w _ _
    · show bitLen n = 0 + bitLen (n / 2 ^ 0)
      rw [Nat.pow_zero, Nat.div_one, Nat.zero_add]
  case round =>
    obtain ⟨i, rfl, hi, hC, hbw, HL⟩ := hrel
    have c0 := hC.c0
    have c1 := hC.c1
    by_cases hx : n / 2 ^ i = 0
    · rw [hx] at c0 c1
      have HN : Hid (bitLen n = i) := by
        have h := HL.out
        rw [hx] at h
        exact h
      go_wp2
      go_ret
      exact ⟨by rw [HN.out]; rfl, hbw⟩
    · have hi2 : i < 128 := by
        rcases Nat.lt_or_ge i 128 with h | h
        · exact h
        · exfalso
          refine hx (Nat.div_eq_of_lt (Nat.lt_of_lt_of_le hn ?_))
          exact Nat.le_trans (by decide) (Nat.pow_le_pow_right (n := 2) (by decide) h)
      have HL2 := Lib.hid (bitLen_step hx HL.out)
      have hx2 : n / 2 ^ (i + 1) = n / 2 ^ i / 2 ^ 1 := by rw [Nat.pow_one, Nat.pow_succ, Nat.div_div_eq_div_mul]
      have hlt : n / 2 ^ i < 340282366920938463463374607431768211456 := Nat.lt_of_le_of_lt (Nat.div_le_self _ _) hn
      have kr := fun w => wright_any (n := n / 2 ^ i) (k := 1) (by omega) hlt w
      rw [← hx2] at kr
      obtain ⟨x, hxx⟩ : ∃ x, x = n / 2 ^ i := ⟨_, rfl⟩
      obtain ⟨y, hyy⟩ : ∃ y, y = n / 2 ^ (i + 1) := ⟨_, rfl⟩
      rw [← hxx] at hC c0 c1 kr hx
      rw [← hyy] at kr
      have kr2 : ∀ w, Calls Tryz.prog 138 #[.agg #[.int .u64 (((x : Nat) : Int) / 18446744073709551616), .int .u64 (((x : Nat) : Int) % 18446744073709551616)], .int .i64 1] w fun e w' => e = .returned (.agg #[.int .u64 (((y : Nat) : Int) / 18446744073709551616), .int .u64 (((y : Nat) : Int) % 18446744073709551616)]) ∧ Below w.heap.size w w' := kr
      have HST : Hid (∀ wx : World, WAt wx w.heap.size x → WAt ((wx.setCell ⟨w.heap.size, 0, none⟩ (.int .u64 (((y : Nat) : Int) / 18446744073709551616))).setCell ⟨w.heap.size, 1, none⟩ (.int .u64 (((y : Nat) : Int) % 18446744073709551616))) w.heap.size y) := fun wx h => h.store
      have hw1 : IntKind.i64.wrap (((i : Nat) : Int) + 1) = ((i : Nat) : Int) + 1 := by
        rw [IntKind.wrap_i64]
        omega
      have hne : (0 < (((x : Nat) : Int) / 18446744073709551616)) ∨ (¬ (0 < (((x : Nat) : Int) / 18446744073709551616)) ∧ 0 < (((x : Nat) : Int) % 18446744073709551616)) := by omega
      have HC := Lib.hid hC
      have HY := Lib.hid hyy
      clear hx hx2 hlt HL hxx kr hC hyy
      have hsz := hbw.size
      rcases hne with h1 | ⟨h1, h2⟩
      · go_wp2_with (go_at_call 138; go_loud (refine (kr2 _).mono ?_; rintro e w2 ⟨rfl, hb⟩; have hC2 := Cells.keep HC.out hb; have s0 := Cells.fz hC2 0; have s1 := Cells.fz hC2 1; have d0 := WAt.c0 hC2; have d1 := WAt.c1 hC2; have HC2 := Lib.hid hC2; clear hC2; have HB := Lib.hid (grow_to hbw hb); clear hb))
        go_roundw
        case rel => exact ⟨i + 1, by first | rfl | simp, by omega, by rw [← HY.out]; exact HST.out _ HC2.out, bel_store HB.out (Nat.le_refl _) _ _, HL2.out⟩
        case measure => simp [intOf]; omega
      · go_wp2_with (go_at_call 138; go_loud (refine (kr2 _).mono ?_; rintro e w2 ⟨rfl, hb⟩; have hC2 := Cells.keep HC.out hb; have s0 := Cells.fz hC2 0; have s1 := Cells.fz hC2 1; have d0 := WAt.c0 hC2; have d1 := WAt.c1 hC2; have HC2 := Lib.hid hC2; clear hC2; have HB := Lib.hid (grow_to hbw hb); clear hb))
        go_roundw
        case rel => exact ⟨i + 1, by first | rfl | simp, by omega, by rw [← HY.out]; exact HST.out _ HC2.out, bel_store HB.out (Nat.le_refl _) _ _, HL2.out⟩
        case measure => simp [intOf]; omega


theorem taken_any {a : Nat} (ha : a < 2 * signB) : Told 103 #[.int .u64 ((a : Nat) : Int)] (.tuple #[.int .u64 ((takenM (a % signB) : Nat) : Int), .int .i64 (takenE (a % signB))]) := by
  intro w
  have f1 : bits .and .u64 (((a : Nat) : Int) / 4503599627370496) 2047 = ((a / 4503599627370496 % 2048 : Nat) : Int) := by
    have h := u64_and_nat (a / 4503599627370496) 2047 (by unfold signB at ha; omega) (by decide)
    rw [show a / 4503599627370496 &&& 2047 = a / 4503599627370496 % 2048 from Nat.and_two_pow_sub_one_eq_mod _ 11] at h
    exact h
  have f2 := and_frac ha
  have f4 : bits .or .u64 ((a % 4503599627370496 : Nat) : Int) 4503599627370496 = ((4503599627370496 + a % 4503599627370496 : Nat) : Int) := by
    have h : bits .or .u64 ((a % 4503599627370496 : Nat) : Int) 4503599627370496 = ((a % 4503599627370496 ||| 4503599627370496 : Nat) : Int) := u64_or_nat (a % 4503599627370496) 4503599627370496 (by omega) (by decide)
    rw [Nat.or_comm, nat_join 52 4503599627370496 (a % 4503599627370496) (by decide) (by omega)] at h
    exact h
  by_cases c : a / 4503599627370496 % 2048 = 0
  · have hr : takenM (a % signB) = a % 4503599627370496 ∧ takenE (a % signB) = -1074 := by
      unfold takenM takenE signB
      have hlt : a % 9223372036854775808 < 4503599627370496 := by omega
      rw [if_pos hlt, if_pos hlt]
      exact ⟨by omega, rfl⟩
    rw [hr.1, hr.2]
    rw [c] at f1
    obtain ⟨M, hM⟩ : ∃ z : Int, z = ((a % 4503599627370496 : Nat) : Int) := ⟨_, rfl⟩
    rw [← hM] at f2 f4 ⊢
    clear hM hr c ha
    go_enter Tryz.func103, Tryz.ntmps103
    go_wp2
    go_ret2
    exact ⟨rfl, 0, rfl⟩
  · have hr : takenM (a % signB) = 4503599627370496 + a % 4503599627370496 ∧ takenE (a % signB) = ((a / 4503599627370496 % 2048 : Nat) : Int) - 1075 := by
      unfold takenM takenE signB
      have hlt : ¬ a % 9223372036854775808 < 4503599627370496 := by omega
      rw [if_neg hlt, if_neg hlt]
      exact ⟨by omega, by omega⟩
    rw [hr.1, hr.2]
    have c2 : ¬ ((a / 4503599627370496 % 2048 : Nat) : Int) = 0 := by omega
    have c3 : 0 ≤ ((a / 4503599627370496 % 2048 : Nat) : Int) ∧ ((a / 4503599627370496 % 2048 : Nat) : Int) < 2048 := by omega
    obtain ⟨X, hX⟩ : ∃ z : Int, z = ((a / 4503599627370496 % 2048 : Nat) : Int) := ⟨_, rfl⟩
    obtain ⟨Z, hZ⟩ : ∃ z : Int, z = ((4503599627370496 + a % 4503599627370496 : Nat) : Int) := ⟨_, rfl⟩
    obtain ⟨M, hM⟩ : ∃ z : Int, z = ((a % 4503599627370496 : Nat) : Int) := ⟨_, rfl⟩
    rw [← hX] at f1 c2 c3 ⊢
    rw [← hZ] at f4 ⊢
    rw [← hM] at f2 f4
    have w1 : IntKind.i64.wrap X = X := by
      rw [IntKind.wrap_i64]
      omega
    have w2 : IntKind.i64.wrap (X - 1075) = X - 1075 := by
      rw [IntKind.wrap_i64]
      omega
    clear hM hr c ha hX hZ
    go_enter Tryz.func103, Tryz.ntmps103
    go_wp2
    go_ret2
    exact ⟨rfl, 0, rfl⟩

end Go.Proofs.YtiidkgdlngcpgaaGreatDoor

namespace Go.Proofs.YtiidkgdlngcpgaaGreatDoor
open Go.RowKit Ieee

/-- what stands in the amount's variable at the end -/
def rndMid (w : Nat) (e : Int) (rest : Bool) : Nat := if rndQ w e - e ≤ 0 then w * 2 ^ (e - rndQ w e).toNat else rndM w (rndQ w e - e).toNat rest
theorem rndR_is (w : Nat) (e : Int) (rest : Bool) : rndR w e rest = if 127 < rndQ w e - e then 0 else if 971 < rndQ w e then infB else if infB ≤ (rndQ w e + 1074).toNat * 4503599627370496 + rndMid w e rest then infB else (rndQ w e + 1074).toNat * 4503599627370496 + rndMid w e rest := rfl
def sgn (s : Bool) : Nat := if s then 9223372036854775808 else 0
theorem word_sgn (s : Bool) (r : Nat) : D.word s r = sgn s + r := by
  unfold Format.word sgn
  rw [D_sw]
  cases s <;> simp
theorem or_sgn (s : Bool) {r : Nat} (hr : r < 9223372036854775808) : bits .or .u64 ((sgn s : Nat) : Int) ((r : Nat) : Int) = ((sgn s + r : Nat) : Int) := by
  have h := u64_or_nat (sgn s) r (by unfold sgn; split <;> omega) (by omega)
  have e : sgn s ||| r = sgn s + r := by
    cases s
    · show 0 ||| r = 0 + r
      rw [Nat.zero_or, Nat.zero_add]
    · exact nat_join 63 9223372036854775808 r (by decide) hr
  rw [e] at h
  exact h
theorem bel_drew {w x : World} (h : Below w.heap.size w x) : Below w.heap.size w x.drew := ⟨h.os, h.tape, h.output, h.size, h.block⟩
theorem cell_off (w : World) {p q : Addr} (h : q.block ≠ p.block) (v : Value) : (w.setCell q v).cell? p = w.cell? p := by
  have hb := Below.heap_setCell w q v p.block (fun e => h e.symm)
  unfold World.cell?
  rw [hb]
theorem wide_eql (a b : Nat) (w : World) (ha : a < 340282366920938463463374607431768211456) (hb : b < 340282366920938463463374607431768211456) : (binOp .eql 136 (.agg #[.int .u64 (((a : Nat) : Int) / 18446744073709551616), .int .u64 (((a : Nat) : Int) % 18446744073709551616)]) (.agg #[.int .u64 (((b : Nat) : Int) / 18446744073709551616), .int .u64 (((b : Nat) : Int) % 18446744073709551616)])).run Tryz.prog w = .ok (.bool (decide (a = b))) w := by
  simp [go_sem]
  by_cases h : a = b
  · subst h
    simp
  · rw [decide_eq_false h]
    repeat' split
    all_goals first | rfl | (exfalso; omega)
theorem WAt.up {w : World} {g n : Nat} (h : WAt w g n) (hn : n < 9007199254740992) : WAt (w.setCell ⟨g, 1, none⟩ (.int .u64 (((n : Nat) : Int) + 1))) g (n + 1) := by
  have h2 := Cells.set h 1 (.int .u64 (((n : Nat) : Int) + 1))
  have e : (wc n).setIfInBounds 1 (.int .u64 (((n : Nat) : Int) + 1)) = wc (n + 1) := by
    unfold wc
    rw [show (((n + 1 : Nat)) : Int) / 18446744073709551616 = ((n : Nat) : Int) / 18446744073709551616 from by omega, show (((n + 1 : Nat)) : Int) % 18446744073709551616 = ((n : Nat) : Int) + 1 from by omega]
    rfl
  rw [e] at h2
  exact h2
theorem rndMid_le (w : Nat) (e : Int) (rest : Bool) : rndMid w e rest ≤ 9007199254740992 := by
  unfold rndMid
  by_cases h : rndQ w e - e ≤ 0
  · rw [if_pos h]
    exact Nat.le_of_lt (rnd_left h).1
  · rw [if_neg h]
    have := rnd_right (w := w) (e := e) (by omega)
    unfold rndM
    split <;> omega
theorem rndQ_ge (w : Nat) (e : Int) : -1074 ≤ rndQ w e := by
  unfold rndQ
  split <;> omega

set_option maxHeartbeats 8000000 in
set_option maxRecDepth 100000 in
theorem rounded_any (s rest : Bool) {w : Nat} {e : Int} (hw : w < 340282366920938463463374607431768211456) (he0 : -5000 ≤ e) (he1 : e ≤ 5000) (W : World) :
    Calls Tryz.prog 115 #[.int .u64 ((sgn s : Nat) : Int), wv w, .int .i64 e, .bool rest] W fun x W' => x = .returned (.int .u64 ((rnd s w e rest : Nat) : Int)) ∧ Below W.heap.size W W' := by
  have hL := bitLen_le (n := w) (k := 128) hw
  have kl : ∀ x : World, Calls Tryz.prog 136 #[.agg #[.int .u64 (((w : Nat) : Int) / 18446744073709551616), .int .u64 (((w : Nat) : Int) % 18446744073709551616)]] x fun r x' => r = .returned (.int .i64 ((bitLen w : Nat) : Int)) ∧ Below x.heap.size x x' := fun x => wlength_any hw x
  have hQ : rndQ w e = if e + ((bitLen w : Nat) : Int) - 53 < -1074 then -1074 else e + ((bitLen w : Nat) : Int) - 53 := rfl
  have hq0 := rndQ_ge w e
  have hq1 : rndQ w e ≤ 6000 := by
    rw [hQ]
    split <;> omega
  have HR : Hid (rnd s w e rest = sgn s + rndR w e rest) := word_sgn s _
  have HRR := Lib.hid (rndR_is w e rest)
  have hm := rndMid_le w e rest
  have HM : Hid (rndMid w e rest = if rndQ w e - e ≤ 0 then w * 2 ^ (e - rndQ w e).toNat else rndM w (rndQ w e - e).toNat rest) := rfl
  have HLeft := Lib.hid (@rnd_left w e)
  have HRight := Lib.hid (@rnd_right w e)
  obtain ⟨Q, hQQ⟩ : ∃ Q : Int, Q = rndQ w e := ⟨_, rfl⟩
  obtain ⟨m, hmm⟩ : ∃ m : Nat, m = rndMid w e rest := ⟨_, rfl⟩
  rw [← hQQ] at hQ hq0 hq1 HRR HM HLeft HRight
  rw [← hmm] at hm HRR HM
  clear hmm hQQ
  obtain ⟨L, hLL⟩ : ∃ L : Int, L = ((bitLen w : Nat) : Int) := ⟨_, rfl⟩
  have hL1 : 0 ≤ L ∧ L ≤ 128 := by omega
  rw [← hLL] at kl hQ
  clear hLL hL
  have HQ := Lib.hid hQ
  clear hQ
  have HW := Lib.hid hw
  clear hw
  have a1 : IntKind.i64.wrap (e + L) = e + L := by
    rw [IntKind.wrap_i64]
    omega
  have a2 : IntKind.i64.wrap (e + L - 53) = e + L - 53 := by
    rw [IntKind.wrap_i64]
    omega
  have a3 : IntKind.i64.wrap (Q - e) = Q - e := by
    rw [IntKind.wrap_i64]
    omega
  rw [wv_is]
  go_enter Tryz.func115, Tryz.ntmps115
  go_upto_if 23 with ((go_at_call 136; go_loud (refine (kl _).mono ?_; rintro x w1 ⟨rfl, hb⟩; have H5 := Lib.hid (Cells.keep (Cells.new W 136 (wc w)) hb); have HB := Lib.hid (grow_to (bel_alloc (Below.refl _ W) _) hb); clear hb)))
  go_cut [9] (fun s9 wx => s9 = .int .i64 Q ∧ WAt wx W.heap.size w ∧ Below W.heap.size W wx)
  case first =>
    by_cases c : e + L - 53 < -1074
    · have HC : Hid (Q = -1074) := by
        have h := HQ.out
        rw [if_pos c] at h
        exact h
      go_wp2
      go_meet
      exact ⟨by rw [HC.out], H5.out, HB.out⟩
    · have HC : Hid (Q = e + L - 53) := by
        have h := HQ.out
        rw [if_neg c] at h
        exact h
      go_wp2
      go_meet
      exact ⟨by rw [HC.out], H5.out, HB.out⟩
  case rest =>
    obtain ⟨rfl, h5, hB⟩ := hcut
    have HB := Lib.hid hB
    have d0 := WAt.c0 h5
    have d1 := WAt.c1 h5
    have H5 := Lib.hid h5
    clear h5 hB a1 a2 HQ hL1 kl
    by_cases hA : 127 < Q - e
    · have HV : Hid (rnd s w e rest = sgn s) := by
        have h := HRR.out
        rw [if_pos hA] at h
        have h2 := HR.out
        rw [h] at h2
        exact h2
      go_wp2
      go_ret
      exact ⟨by rw [HV.out]; rfl, HB.out⟩
    · have hlt5 : W.heap.size < wc.heap.size := Cells.lt H5.out
      go_upto_if 32 with (fail)
      obtain ⟨wd, rfl⟩ : ∃ wd : World, wd = wc := ⟨wc, rfl⟩
      go_cut [11] (fun s11 wx => s11 = .pointer (some ⟨wd.heap.size, 0, none⟩) ∧ WAt wx wd.heap.size m ∧ Below W.heap.size W wx)
      case first =>
        have HN := Lib.hid (Cells.new wd 136 (wc w))
        by_cases hB0 : Q - e ≤ 0
        · obtain ⟨hl1, hl2⟩ := HLeft.out hB0
          obtain ⟨k, hk⟩ : ∃ k : Nat, k = (e - Q).toNat := ⟨_, rfl⟩
          have hmk : m = w * 2 ^ k := by
            have h := HM.out
            rw [if_pos hB0, ← hk] at h
            exact h
          rw [← hk] at hl1 hl2
          have kl := fun x => wleft_any (n := w) (k := k) (by omega) (by omega) x
          rw [← hmk] at kl
          have hki : ((k : Nat) : Int) = -(Q - e) := by omega
          rw [hki] at kl
          have n1 : IntKind.i64.wrap (-(Q - e)) = -(Q - e) := by
            rw [IntKind.wrap_i64]
            omega
          have kl2 : ∀ x : World, Calls Tryz.prog 137 #[.agg #[.int .u64 (((w : Nat) : Int) / 18446744073709551616), .int .u64 (((w : Nat) : Int) % 18446744073709551616)], .int .i64 (-(Q - e))] x fun r x' => r = .returned (.agg #[.int .u64 (((m : Nat) : Int) / 18446744073709551616), .int .u64 (((m : Nat) : Int) % 18446744073709551616)]) ∧ Below x.heap.size x x' := kl
          obtain ⟨N, hN⟩ : ∃ N : Int, N = -(Q - e) := ⟨_, rfl⟩
          clear kl hl1 hl2 hk hmk hki
          go_wp2_with (go_at_call 137; go_loud (refine (kl2 _).mono ?_; rintro x w3 ⟨rfl, hb3⟩; have hC := Cells.keep HN.out hb3; have s0 := Cells.fz hC 0; have s1 := Cells.fz hC 1; have d0 := WAt.c0 hC; have d1 := WAt.c1 hC; have HC := Lib.hid hC; have HB3 := Lib.hid (grow_to (bel_alloc HB.out _) hb3); clear hC hb3))
          go_meet
          exact ⟨rfl, WAt.store HC.out, bel_store HB3.out (Nat.le_of_lt hlt5) _ _⟩
        · have hr1 := HRight.out (by omega)
          obtain ⟨k, hk⟩ : ∃ k : Nat, k = (Q - e).toNat := ⟨_, rfl⟩
          have hki : ((k : Nat) : Int) = Q - e := by omega
          have hk1 : 1 ≤ k := by omega
          have hk2 : k ≤ 127 := by omega
          have hmk : m = rndM w k rest := by
            have h := HM.out
            rw [if_neg hB0, ← hk] at h
            exact h
          rw [← hk] at hr1
          have kr := fun x => wright_any (n := w) (k := k) (by omega) HW.out x
          rw [hki] at kr
          obtain ⟨v, hv⟩ : ∃ v, v = w / 2 ^ k := ⟨_, rfl⟩
          rw [← hv] at kr hr1
          have kr2 : ∀ x : World, Calls Tryz.prog 138 #[.agg #[.int .u64 (((w : Nat) : Int) / 18446744073709551616), .int .u64 (((w : Nat) : Int) % 18446744073709551616)], .int .i64 (Q - e)] x fun r x' => r = .returned (.agg #[.int .u64 (((v : Nat) : Int) / 18446744073709551616), .int .u64 (((v : Nat) : Int) % 18446744073709551616)]) ∧ Below x.heap.size x x' := kr
          have HK := Lib.hid hk
          have HV := Lib.hid hv
          have HMK := Lib.hid hmk
          have HKI := Lib.hid hki
          clear kr hk hv hmk hki
          go_upto_region 11 with (go_at_call 138; go_loud (refine (kr2 _).mono ?_; rintro x w3 ⟨rfl, hb3⟩; have hC := Cells.keep HN.out hb3; have s0 := Cells.fz hC 0; have s1 := Cells.fz hC 1; have d0 := WAt.c0 hC; have d1 := WAt.c1 hC; have HC := Lib.hid hC; have HC5 := Lib.hid (Cells.keep (Cells.alloc H5.out _) hb3); have HB3 := Lib.hid (grow_to (bel_alloc HB.out _) hb3); clear hC hb3))
          have hG : W.heap.size ≠ wd.heap.size := by omega
          have HCG := Lib.hid (WAt.store (m := v) HC.out)
          have HC5' := Lib.hid (Cells.far (Cells.far HC5.out (a := ⟨wd.heap.size, 0, none⟩) hG (.int .u64 (((v : Nat) : Int) / 18446744073709551616))) (a := ⟨wd.heap.size, 1, none⟩) hG (.int .u64 (((v : Nat) : Int) % 18446744073709551616)))
          have HB3' := Lib.hid (bel_store HB3.out (Nat.le_of_lt hlt5) (.int .u64 (((v : Nat) : Int) / 18446744073709551616)) (.int .u64 (((v : Nat) : Int) % 18446744073709551616)))
          obtain ⟨wy, hwy⟩ : ∃ wy, wy = (w3.setCell ⟨wd.heap.size, 0, none⟩ (.int .u64 (((v : Nat) : Int) / 18446744073709551616))).setCell ⟨wd.heap.size, 1, none⟩ (.int .u64 (((v : Nat) : Int) % 18446744073709551616)) := ⟨_, rfl⟩
          rw [← hwy] at HCG HC5' HB3' ⊢
          have e0 := WAt.c0 HC5'.out
          have e1 := WAt.c1 HC5'.out
          have g0 := WAt.c0 HCG.out
          have g1 := WAt.c1 HCG.out
          clear hwy HC HC5 HB3 kr2 s0 s1 d0 d1
          obtain ⟨u, hu⟩ : ∃ u, u = v * 2 ^ k := ⟨_, rfl⟩
          obtain ⟨c, hc⟩ : ∃ c, c = w % 2 ^ k := ⟨_, rfl⟩
          have hcut := cut_is w k
          rw [← HV.out, ← hu, ← hc] at hcut
          have hWW := HW.out
          have kl3 := fun x => wleft_any (n := v) (k := k) (by omega) (by omega) x
          rw [HKI.out, ← hu] at kl3
          have kl4 : ∀ x : World, Calls Tryz.prog 137 #[.agg #[.int .u64 (((v : Nat) : Int) / 18446744073709551616), .int .u64 (((v : Nat) : Int) % 18446744073709551616)], .int .i64 (Q - e)] x fun r x' => r = .returned (.agg #[.int .u64 (((u : Nat) : Int) / 18446744073709551616), .int .u64 (((u : Nat) : Int) % 18446744073709551616)]) ∧ Below x.heap.size x x' := kl3
          have km := fun x => wminus_any (n := w) (m := u) (by omega) hWW x
          rw [hcut.1] at km
          have km2 : ∀ x : World, Calls Tryz.prog 139 #[.agg #[.int .u64 (((w : Nat) : Int) / 18446744073709551616), .int .u64 (((w : Nat) : Int) % 18446744073709551616)], .agg #[.int .u64 (((u : Nat) : Int) / 18446744073709551616), .int .u64 (((u : Nat) : Int) % 18446744073709551616)]] x fun r x' => r = .returned (.agg #[.int .u64 (((c : Nat) : Int) / 18446744073709551616), .int .u64 (((c : Nat) : Int) % 18446744073709551616)]) ∧ Below x.heap.size x x' := km
          have HCU := Lib.hid hc
          clear kl3 km hu hc hcut hWW
          have HKP := Lib.hid fun (wx wz : World) (hw : Below wx.heap.size wx wz) (h : wx.cell? ⟨W.heap.size, 0, none⟩ = some (.int .u64 (((w : Nat) : Int) / 18446744073709551616)) ∧ wx.cell? ⟨W.heap.size, 1, none⟩ = some (.int .u64 (((w : Nat) : Int) % 18446744073709551616)) ∧ wx.cell? ⟨wd.heap.size, 0, none⟩ = some (.int .u64 (((v : Nat) : Int) / 18446744073709551616)) ∧ wx.cell? ⟨wd.heap.size, 1, none⟩ = some (.int .u64 (((v : Nat) : Int) % 18446744073709551616))) => (show wz.cell? ⟨W.heap.size, 0, none⟩ = some (.int .u64 (((w : Nat) : Int) / 18446744073709551616)) ∧ wz.cell? ⟨W.heap.size, 1, none⟩ = some (.int .u64 (((w : Nat) : Int) % 18446744073709551616)) ∧ wz.cell? ⟨wd.heap.size, 0, none⟩ = some (.int .u64 (((v : Nat) : Int) / 18446744073709551616)) ∧ wz.cell? ⟨wd.heap.size, 1, none⟩ = some (.int .u64 (((v : Nat) : Int) % 18446744073709551616)) from
            ⟨(hw.cell (World.block_lt_of_cell? _ _ h.1)).trans h.1, (hw.cell (World.block_lt_of_cell? _ _ h.2.1)).trans h.2.1, (hw.cell (World.block_lt_of_cell? _ _ h.2.2.1)).trans h.2.2.1, (hw.cell (World.block_lt_of_cell? _ _ h.2.2.2)).trans h.2.2.2⟩)
          have HSy : Hid (wy.cell? ⟨W.heap.size, 0, none⟩ = some (.int .u64 (((w : Nat) : Int) / 18446744073709551616)) ∧ wy.cell? ⟨W.heap.size, 1, none⟩ = some (.int .u64 (((w : Nat) : Int) % 18446744073709551616)) ∧ wy.cell? ⟨wd.heap.size, 0, none⟩ = some (.int .u64 (((v : Nat) : Int) / 18446744073709551616)) ∧ wy.cell? ⟨wd.heap.size, 1, none⟩ = some (.int .u64 (((v : Nat) : Int) % 18446744073709551616))) := ⟨e0, e1, g0, g1⟩
          have hz0 : W.heap.size < wd.heap.size := hlt5
          have hz1 : wd.heap.size < wy.heap.size := Cells.lt HCG.out
          have HKS : Hid (∀ (wx : World) (g : Nat) (a b : Value), (wx.cell? ⟨W.heap.size, 0, none⟩ = some (.int .u64 (((w : Nat) : Int) / 18446744073709551616)) ∧ wx.cell? ⟨W.heap.size, 1, none⟩ = some (.int .u64 (((w : Nat) : Int) % 18446744073709551616)) ∧ wx.cell? ⟨wd.heap.size, 0, none⟩ = some (.int .u64 (((v : Nat) : Int) / 18446744073709551616)) ∧ wx.cell? ⟨wd.heap.size, 1, none⟩ = some (.int .u64 (((v : Nat) : Int) % 18446744073709551616))) → g ≠ W.heap.size → g ≠ wd.heap.size → (((wx.setCell ⟨g, 0, none⟩ a).setCell ⟨g, 1, none⟩ b).cell? ⟨W.heap.size, 0, none⟩ = some (.int .u64 (((w : Nat) : Int) / 18446744073709551616)) ∧ ((wx.setCell ⟨g, 0, none⟩ a).setCell ⟨g, 1, none⟩ b).cell? ⟨W.heap.size, 1, none⟩ = some (.int .u64 (((w : Nat) : Int) % 18446744073709551616)) ∧ ((wx.setCell ⟨g, 0, none⟩ a).setCell ⟨g, 1, none⟩ b).cell? ⟨wd.heap.size, 0, none⟩ = some (.int .u64 (((v : Nat) : Int) / 18446744073709551616)) ∧ ((wx.setCell ⟨g, 0, none⟩ a).setCell ⟨g, 1, none⟩ b).cell? ⟨wd.heap.size, 1, none⟩ = some (.int .u64 (((v : Nat) : Int) % 18446744073709551616)))) := fun wx g a b h h1 h2 => by
            have n1 : ∀ (j j2 : Nat), ∀ x : Value, (wx.setCell ⟨g, j2, none⟩ x).cell? ⟨W.heap.size, j, none⟩ = wx.cell? ⟨W.heap.size, j, none⟩ := fun j j2 x => cell_off wx (by simpa using h1) x
            have n2 : ∀ (j j2 : Nat), ∀ x : Value, (wx.setCell ⟨g, j2, none⟩ x).cell? ⟨wd.heap.size, j, none⟩ = wx.cell? ⟨wd.heap.size, j, none⟩ := fun j j2 x => cell_off wx (by simpa using h2) x
            obtain ⟨q1, q2, q3, q4⟩ := h
            refine ⟨?_, ?_, ?_, ?_⟩
            · exact (cell_off _ (by simpa using h1) b).trans ((n1 0 0 a).trans q1)
            · exact (cell_off _ (by simpa using h1) b).trans ((n1 1 0 a).trans q2)
            · exact (cell_off _ (by simpa using h2) b).trans ((n2 0 0 a).trans q3)
            · exact (cell_off _ (by simpa using h2) b).trans ((n2 1 0 a).trans q4)
          go_cut [12] (fun s12 wx => ∃ g12, s12 = .pointer (some ⟨g12, 0, none⟩) ∧ WAt wx wd.heap.size v ∧ WAt wx g12 c ∧ Below W.heap.size W wx)
          case first =>
            go_region_held3 (fun w' => w'.cell? ⟨W.heap.size, 0, none⟩ = some (.int .u64 (((w : Nat) : Int) / 18446744073709551616)) ∧ w'.cell? ⟨W.heap.size, 1, none⟩ = some (.int .u64 (((w : Nat) : Int) % 18446744073709551616)) ∧ w'.cell? ⟨wd.heap.size, 0, none⟩ = some (.int .u64 (((v : Nat) : Int) / 18446744073709551616)) ∧ w'.cell? ⟨wd.heap.size, 1, none⟩ = some (.int .u64 (((v : Nat) : Int) % 18446744073709551616))) ((first | exact ⟨e0, e1, g0, g1⟩ | exact HSy.out | exact HS4.out | exact HS5.out | exact HKP.out _ _ (bel_alloc (Below.refl _ _) _) HS5.out | exact HKP.out _ _ (bel_alloc (Below.refl _ _) _) HS4.out | exact HKP.out _ _ (bel_alloc (Below.refl _ _) _) HSy.out | exact HKP.out _ _ (bel_drew (bel_alloc (Below.refl _ _) _)) HSy.out | exact HKP.out _ _ (bel_drew (bel_alloc (Below.refl _ _) _)) HS4.out | exact HKP.out _ _ (bel_drew (bel_alloc (Below.refl _ _) _)) HS5.out | exact HKS.out _ _ _ _ HS5.out (by omega) (by omega) | assumption)) ((first | (go_at_call 137; refine (kl4 _).mono ?_; rintro x w4 ⟨rfl, hb4⟩; (first | (have HS4 := Lib.hid (HKP.out _ _ hb4 HSy.out); have hz4 : wy.heap.size ≤ w4.heap.size := hb4.size) | (have HS4 := Lib.hid (HKP.out _ _ hb4 (HKP.out _ _ (bel_alloc (Below.refl _ wy) _) HSy.out)); have hz4 : wy.heap.size ≤ w4.heap.size := Nat.le_trans (bel_alloc (Below.refl _ wy) _).size hb4.size) | (have HS4 := Lib.hid (HKP.out _ _ hb4 (HKP.out _ _ (bel_drew (bel_alloc (Below.refl _ wy) _)) HSy.out)); have hz4 : wy.heap.size ≤ w4.heap.size := Nat.le_trans (bel_drew (bel_alloc (Below.refl _ wy) _)).size hb4.size)); first | (have z := Cells.keep (Cells.new _ _ _) hb4; have z0 := Cells.fz z 0; have z1 := Cells.fz z 1; have y0 := Cells.cell z (j := 0) rfl; have y1 := Cells.cell z (j := 1) rfl; have HZ := Lib.hid z; clear z) | (have z := Cells.keep (Cells.drew (Cells.new wy _ _)) hb4; have z0 := Cells.fz z 0; have z1 := Cells.fz z 1; have y0 := Cells.cell z (j := 0) rfl; have y1 := Cells.cell z (j := 1) rfl; have HZ := Lib.hid z; clear z) | skip) | (go_at_call 139; refine (km2 _).mono ?_; rintro x w5 ⟨rfl, hb5⟩; (first | (have HS5 := Lib.hid (HKP.out _ _ hb5 HS4.out); have hz5 : w4.heap.size ≤ w5.heap.size := hb5.size) | (have HS5 := Lib.hid (HKP.out _ _ hb5 (HKP.out _ _ (bel_alloc (Below.refl _ w4) _) HS4.out)); have hz5 : w4.heap.size ≤ w5.heap.size := Nat.le_trans (bel_alloc (Below.refl _ w4) _).size hb5.size)); first | (have z := Cells.keep (Cells.new _ _ _) hb5; have z0 := Cells.fz z 0; have z1 := Cells.fz z 1; have y0 := Cells.cell z (j := 0) rfl; have y1 := Cells.cell z (j := 1) rfl; have HZ := Lib.hid z; clear z) | (have z := Cells.keep HZ.out hb5; have z0 := Cells.fz z 0; have z1 := Cells.fz z 1; have y0 := Cells.cell z (j := 0) rfl; have y1 := Cells.cell z (j := 1) rfl; have HZ := Lib.hid z; clear z) | skip)))
            · go_wp2_with fail
              go_meet
              exact ⟨_, rfl, Cells.alloc (Cells.keep (Cells.keep (Cells.drew HCG.out) hb4) hb5) _, Cells.new w5 136 (wc c), bel_alloc (grow_to (grow_to (bel_drew HB3'.out) hb4) hb5) _⟩
            · go_wp2_with fail
              go_meet
              exact ⟨_, rfl, Cells.far (Cells.far (Cells.keep (Cells.alloc (Cells.keep (Cells.drew HCG.out) hb4) _) hb5) (a := ⟨w4.heap.size, 0, none⟩) (by show wd.heap.size ≠ w4.heap.size; omega) _) (a := ⟨w4.heap.size, 1, none⟩) (by show wd.heap.size ≠ w4.heap.size; omega) _, Cells.set (Cells.set HZ.out 0 _) 1 _, bel_store (grow_to (bel_alloc (grow_to (bel_drew HB3'.out) hb4) _) hb5) (by omega) _ _⟩
            · go_wp2_with fail
              go_meet
              exact ⟨_, rfl, Cells.far (Cells.far (Cells.keep (Cells.keep (Cells.drew (Cells.alloc HCG.out _)) hb4) hb5) (a := ⟨wy.heap.size, 0, none⟩) (by show wd.heap.size ≠ wy.heap.size; omega) _) (a := ⟨wy.heap.size, 1, none⟩) (by show wd.heap.size ≠ wy.heap.size; omega) _, Cells.set (Cells.set HZ.out 0 _) 1 _, bel_store (grow_to (grow_to (bel_drew (bel_alloc HB3'.out _)) hb4) hb5) (by omega) _ _⟩
          case rest =>
            obtain ⟨g12, rfl, hcg, hc12, hbe⟩ := hcut
            obtain ⟨we, rfl⟩ : ∃ we : World, we = wc := ⟨wc, rfl⟩
            have HC12 := Lib.hid hc12
            have HCGe := Lib.hid hcg
            have HBe := Lib.hid hbe
            clear hc12 hcg hbe
            obtain ⟨md, hmd⟩ : ∃ md, md = 2 ^ (k - 1) := ⟨_, rfl⟩
            have hmd2 : md < 340282366920938463463374607431768211456 := by
              rw [hmd]
              exact Nat.lt_of_le_of_lt (Nat.pow_le_pow_right (by decide) (show k - 1 ≤ 126 by omega)) (by decide)
            have hcl : c < 340282366920938463463374607431768211456 := Nat.lt_of_le_of_lt (Nat.le_trans (Nat.le_of_eq HCU.out) (Nat.mod_le _ _)) HW.out
            have km3 := fun x => wleft_any (n := 1) (k := k - 1) (by omega) (by rw [Nat.one_mul, ← hmd]; exact hmd2) x
            rw [Nat.one_mul, ← hmd] at km3
            have hki1 : ((k - 1 : Nat) : Int) = Q - e - 1 := by
              have := HKI.out
              omega
            rw [hki1] at km3
            have km4 : ∀ x : World, Calls Tryz.prog 137 #[.agg #[.int .u64 0, .int .u64 1], .int .i64 (Q - e - 1)] x fun r x' => r = .returned (.agg #[.int .u64 (((md : Nat) : Int) / 18446744073709551616), .int .u64 (((md : Nat) : Int) % 18446744073709551616)]) ∧ Below x.heap.size x x' := km3
            have kl5 := fun x => wless_any (n := md) (m := c) hmd2 hcl x
            have n2 : IntKind.i64.wrap (Q - e - 1) = Q - e - 1 := by
              rw [IntKind.wrap_i64]
              omega
            have hodd : bits .and .u64 (((v : Nat) : Int) % 18446744073709551616) 1 = ((v % 2 : Nat) : Int) := by
              have h : bits .and .u64 ((v : Nat) : Int) ((1 : Nat) : Int) = ((v &&& 1 : Nat) : Int) := u64_and_nat v 1 (by omega) (by decide)
              rw [Nat.and_one_is_mod] at h
              rw [show (((v : Nat) : Int) % 18446744073709551616) = ((v : Nat) : Int) from by omega]
              exact h
            have hup : IntKind.u64.wrap ((((v : Nat) : Int) % 18446744073709551616) + 1) = ((v : Nat) : Int) + 1 := by
              rw [IntKind.wrap_u64]
              omega
            have heq := fun x => wide_eql c md x hcl hmd2
            have HMD := Lib.hid hmd
            clear km3 hki1 hmd hcl hmd2 kl4 km2 HKP HSy e0 e1 g0 g1 HKS
            by_cases c1 : md < c
            · have kless : ∀ x : World, Calls Tryz.prog 140 #[.agg #[.int .u64 (((md : Nat) : Int) / 18446744073709551616), .int .u64 (((md : Nat) : Int) % 18446744073709551616)], .agg #[.int .u64 (((c : Nat) : Int) / 18446744073709551616), .int .u64 (((c : Nat) : Int) % 18446744073709551616)]] x fun r x' => r = .returned (.bool true) ∧ Below x.heap.size x x' := fun x => by
                have h := kl5 x
                rw [decide_eq_true c1] at h
                exact h
              clear kl5
              have HMu : Hid (m = v + 1) := by
                have h := HMK.out
                unfold rndM at h
                rw [← HV.out, ← HCU.out, ← HMD.out, if_pos (.inl c1)] at h
                exact h
              clear c1
              go_wp2_with (first | (go_at_call 137; go_loud (refine (km4 _).mono ?_; rintro x w6 ⟨rfl, hb6⟩; have hx12 := Cells.keep (Cells.alloc HC12.out _) hb6; have hxG := Cells.keep (Cells.alloc HCGe.out _) hb6; have HC12b := Lib.hid hx12; have HCGb := Lib.hid hxG; have HBe6 := Lib.hid (grow_to (bel_alloc HBe.out _) hb6); have x0 := WAt.c0 hx12; have x1 := WAt.c1 hx12; have v0 := WAt.c0 hxG; have v1 := WAt.c1 hxG; have hlt6 : wd.heap.size < w6.heap.size := Cells.lt hxG; have hlt12 : g12 < w6.heap.size := Cells.lt hx12; clear hb6 hx12 hxG)) | (go_at_call 140; go_loud (refine (kless _).mono ?_; rintro x w7 ⟨rfl, hb7⟩; have hx12 := Cells.keep (Cells.alloc HC12b.out _) hb7; have hxG := Cells.keep (Cells.alloc HCGb.out _) hb7; have hx14 := Cells.keep (Cells.new w6 136 (wc md)) hb7; have HCGc := Lib.hid hxG; have HBe7 := Lib.hid (grow_to (bel_alloc HBe6.out _) hb7); have y0 := WAt.c0 hx12; have y1 := WAt.c1 hx12; have t0 := WAt.c0 hx14; have t1 := WAt.c1 hx14; have u0 := WAt.c0 hxG; have u1 := WAt.c1 hxG; have r0 := Cells.fz hxG 0; have r1 := Cells.fz hxG 1; clear hb7 hx12 hxG hx14)))
              go_meet
              exact ⟨rfl, by rw [HMu.out]; exact WAt.up HCGc.out hr1, HBe7.out.setCell (Nat.le_of_lt hlt5) _⟩
            · have kless : ∀ x : World, Calls Tryz.prog 140 #[.agg #[.int .u64 (((md : Nat) : Int) / 18446744073709551616), .int .u64 (((md : Nat) : Int) % 18446744073709551616)], .agg #[.int .u64 (((c : Nat) : Int) / 18446744073709551616), .int .u64 (((c : Nat) : Int) % 18446744073709551616)]] x fun r x' => r = .returned (.bool false) ∧ Below x.heap.size x x' := fun x => by
                have h := kl5 x
                rw [decide_eq_false c1] at h
                exact h
              clear kl5
              by_cases c2 : c = md
              · have heq2 : ∀ x, (binOp .eql 136 (.agg #[.int .u64 (((c : Nat) : Int) / 18446744073709551616), .int .u64 (((c : Nat) : Int) % 18446744073709551616)]) (.agg #[.int .u64 (((md : Nat) : Int) / 18446744073709551616), .int .u64 (((md : Nat) : Int) % 18446744073709551616)])).run Tryz.prog x = .ok (.bool true) x := fun x => by
                  have h := heq x
                  rw [decide_eq_true c2] at h
                  exact h
                clear heq
                have HC1 := Lib.hid c1
                have HC2 := Lib.hid c2
                clear c1 c2
                cases rest with
                | true =>
                  have HMu : Hid (m = v + 1) := by
                    have h := HMK.out
                    unfold rndM at h
                    rw [← HV.out, ← HCU.out, ← HMD.out, if_pos (.inr ⟨HC2.out, .inl rfl⟩)] at h
                    exact h
                  go_wp2_with (first | (go_at_call 137; go_loud (refine (km4 _).mono ?_; rintro x w6 ⟨rfl, hb6⟩; have hx12 := Cells.keep (Cells.alloc HC12.out _) hb6; have hxG := Cells.keep (Cells.alloc HCGe.out _) hb6; have HC12b := Lib.hid hx12; have HCGb := Lib.hid hxG; have HBe6 := Lib.hid (grow_to (bel_alloc HBe.out _) hb6); have x0 := WAt.c0 hx12; have x1 := WAt.c1 hx12; have v0 := WAt.c0 hxG; have v1 := WAt.c1 hxG; have hlt6 : wd.heap.size < w6.heap.size := Cells.lt hxG; have hlt12 : g12 < w6.heap.size := Cells.lt hx12; clear hb6 hx12 hxG)) | (go_at_call 140; go_loud (refine (kless _).mono ?_; rintro x w7 ⟨rfl, hb7⟩; have hx12 := Cells.keep (Cells.alloc HC12b.out _) hb7; have hxG := Cells.keep (Cells.alloc HCGb.out _) hb7; have hx14 := Cells.keep (Cells.new w6 136 (wc md)) hb7; have HCGc := Lib.hid hxG; have HBe7 := Lib.hid (grow_to (bel_alloc HBe6.out _) hb7); have y0 := WAt.c0 hx12; have y1 := WAt.c1 hx12; have t0 := WAt.c0 hx14; have t1 := WAt.c1 hx14; have u0 := WAt.c0 hxG; have u1 := WAt.c1 hxG; have r0 := Cells.fz hxG 0; have r1 := Cells.fz hxG 1; clear hb7 hx12 hxG hx14)))
                  go_meet
                  exact ⟨rfl, by rw [HMu.out]; exact WAt.up HCGc.out hr1, HBe7.out.setCell (Nat.le_of_lt hlt5) _⟩
                | false =>
                  by_cases c3 : v % 2 = 1
                  · have HMu : Hid (m = v + 1) := by
                      have h := HMK.out
                      unfold rndM at h
                      rw [← HV.out, ← HCU.out, ← HMD.out, if_pos (.inr ⟨HC2.out, .inr c3⟩)] at h
                      exact h
                    rw [c3] at hodd
                    clear c3
                    go_wp2_with (first | (go_at_call 137; go_loud (refine (km4 _).mono ?_; rintro x w6 ⟨rfl, hb6⟩; have hx12 := Cells.keep (Cells.alloc HC12.out _) hb6; have hxG := Cells.keep (Cells.alloc HCGe.out _) hb6; have HC12b := Lib.hid hx12; have HCGb := Lib.hid hxG; have HBe6 := Lib.hid (grow_to (bel_alloc HBe.out _) hb6); have x0 := WAt.c0 hx12; have x1 := WAt.c1 hx12; have v0 := WAt.c0 hxG; have v1 := WAt.c1 hxG; have hlt6 : wd.heap.size < w6.heap.size := Cells.lt hxG; have hlt12 : g12 < w6.heap.size := Cells.lt hx12; clear hb6 hx12 hxG)) | (go_at_call 140; go_loud (refine (kless _).mono ?_; rintro x w7 ⟨rfl, hb7⟩; have hx12 := Cells.keep (Cells.alloc HC12b.out _) hb7; have hxG := Cells.keep (Cells.alloc HCGb.out _) hb7; have hx14 := Cells.keep (Cells.new w6 136 (wc md)) hb7; have HCGc := Lib.hid hxG; have HBe7 := Lib.hid (grow_to (bel_alloc HBe6.out _) hb7); have y0 := WAt.c0 hx12; have y1 := WAt.c1 hx12; have t0 := WAt.c0 hx14; have t1 := WAt.c1 hx14; have u0 := WAt.c0 hxG; have u1 := WAt.c1 hxG; have r0 := Cells.fz hxG 0; have r1 := Cells.fz hxG 1; clear hb7 hx12 hxG hx14)))
                    go_meet
                    exact ⟨rfl, by rw [HMu.out]; exact WAt.up HCGc.out hr1, HBe7.out.setCell (Nat.le_of_lt hlt5) _⟩
                  · have HMu : Hid (m = v) := by
                      have h := HMK.out
                      unfold rndM at h
                      rw [← HV.out, ← HCU.out, ← HMD.out, if_neg (fun h => h.elim HC1.out fun h => h.2.elim (fun h => nomatch h) c3), Nat.add_zero] at h
                      exact h
                    rw [show v % 2 = 0 by omega] at hodd
                    clear c3
                    go_wp2_with (first | (go_at_call 137; go_loud (refine (km4 _).mono ?_; rintro x w6 ⟨rfl, hb6⟩; have hx12 := Cells.keep (Cells.alloc HC12.out _) hb6; have hxG := Cells.keep (Cells.alloc HCGe.out _) hb6; have HC12b := Lib.hid hx12; have HCGb := Lib.hid hxG; have HBe6 := Lib.hid (grow_to (bel_alloc HBe.out _) hb6); have x0 := WAt.c0 hx12; have x1 := WAt.c1 hx12; have v0 := WAt.c0 hxG; have v1 := WAt.c1 hxG; have hlt6 : wd.heap.size < w6.heap.size := Cells.lt hxG; have hlt12 : g12 < w6.heap.size := Cells.lt hx12; clear hb6 hx12 hxG)) | (go_at_call 140; go_loud (refine (kless _).mono ?_; rintro x w7 ⟨rfl, hb7⟩; have hx12 := Cells.keep (Cells.alloc HC12b.out _) hb7; have hxG := Cells.keep (Cells.alloc HCGb.out _) hb7; have hx14 := Cells.keep (Cells.new w6 136 (wc md)) hb7; have HCGc := Lib.hid hxG; have HBe7 := Lib.hid (grow_to (bel_alloc HBe6.out _) hb7); have y0 := WAt.c0 hx12; have y1 := WAt.c1 hx12; have t0 := WAt.c0 hx14; have t1 := WAt.c1 hx14; have u0 := WAt.c0 hxG; have u1 := WAt.c1 hxG; have r0 := Cells.fz hxG 0; have r1 := Cells.fz hxG 1; clear hb7 hx12 hxG hx14)))
                    go_meet
                    exact ⟨rfl, by rw [HMu.out]; exact HCGc.out, HBe7.out⟩
              · have heq2 : ∀ x, (binOp .eql 136 (.agg #[.int .u64 (((c : Nat) : Int) / 18446744073709551616), .int .u64 (((c : Nat) : Int) % 18446744073709551616)]) (.agg #[.int .u64 (((md : Nat) : Int) / 18446744073709551616), .int .u64 (((md : Nat) : Int) % 18446744073709551616)])).run Tryz.prog x = .ok (.bool false) x := fun x => by
                  have h := heq x
                  rw [decide_eq_false c2] at h
                  exact h
                clear heq
                have HMu : Hid (m = v) := by
                  have h := HMK.out
                  unfold rndM at h
                  rw [← HV.out, ← HCU.out, ← HMD.out, if_neg (fun h => h.elim c1 fun h => c2 h.1), Nat.add_zero] at h
                  exact h
                clear c1 c2
                go_wp2_with (first | (go_at_call 137; go_loud (refine (km4 _).mono ?_; rintro x w6 ⟨rfl, hb6⟩; have hx12 := Cells.keep (Cells.alloc HC12.out _) hb6; have hxG := Cells.keep (Cells.alloc HCGe.out _) hb6; have HC12b := Lib.hid hx12; have HCGb := Lib.hid hxG; have HBe6 := Lib.hid (grow_to (bel_alloc HBe.out _) hb6); have x0 := WAt.c0 hx12; have x1 := WAt.c1 hx12; have v0 := WAt.c0 hxG; have v1 := WAt.c1 hxG; have hlt6 : wd.heap.size < w6.heap.size := Cells.lt hxG; have hlt12 : g12 < w6.heap.size := Cells.lt hx12; clear hb6 hx12 hxG)) | (go_at_call 140; go_loud (refine (kless _).mono ?_; rintro x w7 ⟨rfl, hb7⟩; have hx12 := Cells.keep (Cells.alloc HC12b.out _) hb7; have hxG := Cells.keep (Cells.alloc HCGb.out _) hb7; have hx14 := Cells.keep (Cells.new w6 136 (wc md)) hb7; have HCGc := Lib.hid hxG; have HBe7 := Lib.hid (grow_to (bel_alloc HBe6.out _) hb7); have y0 := WAt.c0 hx12; have y1 := WAt.c1 hx12; have t0 := WAt.c0 hx14; have t1 := WAt.c1 hx14; have u0 := WAt.c0 hxG; have u1 := WAt.c1 hxG; have r0 := Cells.fz hxG 0; have r1 := Cells.fz hxG 1; clear hb7 hx12 hxG hx14)))
                go_meet
                exact ⟨rfl, by rw [HMu.out]; exact HCGc.out, HBe7.out⟩
      case rest =>
        obtain ⟨rfl, hG, hB⟩ := hcut
        have c1 := WAt.c1 hG
        rw [show (((m : Nat) : Int) % 18446744073709551616) = ((m : Nat) : Int) from by omega] at c1
        have HBf := Lib.hid hB
        clear hG hB HB H5 HM HLeft HRight
        have o1 : bits .or .u64 ((sgn s : Nat) : Int) 9218868437227405312 = ((sgn s + 9218868437227405312 : Nat) : Int) := or_sgn s (r := 9218868437227405312) (by decide)
        have b1 : IntKind.i64.wrap (Q + 1074) = Q + 1074 := by
          rw [IntKind.wrap_i64]
          omega
        by_cases hq : 971 < Q
        · have HV : Hid (rnd s w e rest = sgn s + 9218868437227405312) := by
            have h := HRR.out
            rw [if_neg hA, if_pos hq] at h
            have h2 := HR.out
            rw [h] at h2
            exact h2
          go_wp2
          go_ret
          exact ⟨by rw [HV.out]; rfl, HBf.out⟩
        · have b2 : IntKind.u64.wrap (Q + 1074) = Q + 1074 := by
            rw [IntKind.wrap_u64]
            omega
          have b3 : IntKind.u64.wrap ((Q + 1074) * 4503599627370496) = (Q + 1074) * 4503599627370496 := by
            rw [IntKind.wrap_u64]
            omega
          obtain ⟨bv, hbv⟩ : ∃ bv, bv = (Q + 1074).toNat * 4503599627370496 + m := ⟨_, rfl⟩
          have b4 : IntKind.u64.wrap ((Q + 1074) * 4503599627370496 + ((m : Nat) : Int)) = ((bv : Nat) : Int) := by
            rw [IntKind.wrap_u64]
            omega
          by_cases hbi : infB ≤ bv
          · have HV : Hid (rnd s w e rest = sgn s + 9218868437227405312) := by
              have h := HRR.out
              rw [if_neg hA, if_neg hq, ← hbv, if_pos hbi] at h
              have h2 := HR.out
              rw [h] at h2
              exact h2
            have hbi2 : (9218868437227405312 : Int) ≤ ((bv : Nat) : Int) := by
              unfold infB at hbi
              omega
            clear hbi hbv
            go_wp2
            go_ret
            exact ⟨by rw [HV.out]; rfl, HBf.out⟩
          · have HV : Hid (rnd s w e rest = sgn s + bv) := by
              have h := HRR.out
              rw [if_neg hA, if_neg hq, ← hbv, if_neg hbi] at h
              have h2 := HR.out
              rw [h] at h2
              exact h2
            have hbi2 : ¬ (9218868437227405312 : Int) ≤ ((bv : Nat) : Int) := by
              unfold infB at hbi
              omega
            have o2 := or_sgn s (r := bv) (by unfold infB at hbi; omega)
            clear hbi hbv o1
            go_wp2
            go_ret
            exact ⟨by rw [HV.out]; rfl, HBf.out⟩

end Go.Proofs.YtiidkgdlngcpgaaGreatDoor

namespace Go.Proofs.YtiidkgdlngcpgaaGreatDoor
open Go.RowKit

theorem wz_is : wc 0 = #[.int .u64 0, .int .u64 0] := rfl
theorem mul_wide {a b k : Nat} (ha : a < 18446744073709551616) (hb : b < 18446744073709551616) : a * (b % 2 ^ k) < 340282366920938463463374607431768211456 ∧ a * b < 340282366920938463463374607431768211456 := by
  have h1 : a * b < 340282366920938463463374607431768211456 := Nat.lt_of_le_of_lt (Nat.mul_le_mul (Nat.le_of_lt_succ (show a < 18446744073709551615 + 1 by omega)) (Nat.le_of_lt_succ (show b < 18446744073709551615 + 1 by omega))) (by decide)
  exact ⟨Nat.lt_of_le_of_lt (Nat.mul_le_mul_left _ (Nat.mod_le _ _)) h1, h1⟩

end Go.Proofs.YtiidkgdlngcpgaaGreatDoor

namespace Go.Proofs.YtiidkgdlngcpgaaGreatDoor
open Go.RowKit

theorem WAt.odd {w : World} {g n : Nat} (h : WAt w g n) (hn : n % 2 = 0) : WAt (w.setCell ⟨g, 1, none⟩ (.int .u64 (((n + 1 : Nat) : Int) % 18446744073709551616))) g (n + 1) := by
  have h2 := Cells.set h 1 (.int .u64 (((n + 1 : Nat) : Int) % 18446744073709551616))
  have e : (wc n).setIfInBounds 1 (.int .u64 (((n + 1 : Nat) : Int) % 18446744073709551616)) = wc (n + 1) := by
    unfold wc
    rw [show (((n + 1 : Nat) : Int) / 18446744073709551616) = (((n : Nat) : Int) / 18446744073709551616) from by omega]
    rfl
  rw [e] at h2
  exact h2
theorem and_one (x : Nat) : bits .and .u64 (((x : Nat) : Int) % 18446744073709551616) 1 = ((x % 2 : Nat) : Int) := by
  have h : bits .and .u64 ((x % 18446744073709551616 : Nat) : Int) ((1 : Nat) : Int) = ((x % 18446744073709551616 &&& 1 : Nat) : Int) := u64_and_nat (x % 18446744073709551616) 1 (by omega) (by decide)
  rw [Nat.and_one_is_mod, show x % 18446744073709551616 % 2 = x % 2 from by omega] at h
  rw [show (((x : Nat) : Int) % 18446744073709551616) = ((x % 18446744073709551616 : Nat) : Int) from by omega]
  exact h
theorem or_bit {x b : Nat} (hx : x % 2 = 0) (hl : x < 18446744073709551616) (hb : b < 2) : bits .or .u64 ((x : Nat) : Int) ((b : Nat) : Int) = ((x + b : Nat) : Int) := by
  have h := u64_or_nat x b hl (by omega)
  have e : x ||| b = x + b := nat_join1 x b hx hb
  rw [e] at h
  exact h

end Go.Proofs.YtiidkgdlngcpgaaGreatDoor

namespace Go.Proofs.YtiidkgdlngcpgaaGreatDoor
open Go.RowKit Ieee
theorem str_slice {l : List UInt8} {i : Nat} (h : i ≤ l.length) (w : World) : (Instr.slice 9 (.string (strOf l)) (some (.int .i64 ((i : Nat) : Int))) none none).run Tryz.prog w = .ok (.string (strOf (l.drop i))) w := by
  have hsz : (strOf l).size = l.length := by rw [ba_size]
  rw [run_slice_string_l w 9 (strOf l) Tryz.underlying9 .i64 ((i : Nat) : Int) (by omega) (by rw [hsz]; omega), Int.toNat_natCast]
  congr 2
  apply ByteArray.ext
  rw [ByteArray.data_extract, hsz]
  unfold strOf
  simp
  exact List.take_of_length_le (by rw [List.length_drop]; exact Nat.le_refl _)
def words5 : Array Value := #[.int .u64 9221120237041090561, .int .u64 9218868437227405312, .int .u64 18442240474082181120, .int .u64 0, .int .u64 9223372036854775808]
theorem pwords_at {i : Nat} (h : i < 5) : words5[i]? = some (.int .u64 ((word5 i : Nat) : Int)) := by
  rcases (show i = 0 ∨ i = 1 ∨ i = 2 ∨ i = 3 ∨ i = 4 by omega) with rfl | rfl | rfl | rfl | rfl <;> rfl
set_option maxHeartbeats 8000000 in
set_option maxRecDepth 100000 in
theorem rparse_any {l : List UInt8} (hs : l.length < 1073741824) (w : World) :
    Calls Tryz.prog 80 #[.string (strOf l)] w fun e w' => e = .returned (.tuple #[.int .u64 (((fparse l).1 : Nat) : Int), .int .i64 (fparse l).2]) ∧ Below w.heap.size w w' := by
  have HFL : Hid (∀ k, k < 5 → ftext (word5 k) = l → fparse l = (word5 k, 0)) := fun k hk h => words_parse _ (word5_ok hk).1 (word5_ok hk).2 h
  have HFN := Lib.hid (@word5_none l)
  obtain ⟨V, hV⟩ : ∃ V, V = fparse l := ⟨_, rfl⟩
  rw [← hV] at HFL HFN ⊢
  clear hV
  obtain ⟨S, hS⟩ : ∃ S, S = strOf l := ⟨_, rfl⟩
  rw [← hS]
  have hsz : S.size = l.length := by rw [hS, ba_size]
  have HS := Lib.hid hS
  clear hS
  go_enter Tryz.func80, Tryz.ntmps80
  go_upto_region 2 with fail
  have hL0 := Cells.new w 41 words5
  have hB0 := (Below.refl w.heap.size w).alloc (Nat.le_refl _) (.cells words5 41)
  unfold words5 at hL0 hB0
  obtain ⟨w1, hw1⟩ : ∃ w1, w1 = w.alloc (.cells #[.int .u64 9221120237041090561, .int .u64 9218868437227405312, .int .u64 18442240474082181120, .int .u64 0, .int .u64 9223372036854775808] 41) := ⟨_, rfl⟩
  rw [← hw1] at hL0 hB0 ⊢
  have HL := Lib.hid hL0
  have HB0 := Lib.hid hB0
  obtain ⟨g1, hg1⟩ : ∃ g1, g1 = w.heap.size := ⟨_, rfl⟩
  rw [← hg1] at HL ⊢
  clear hw1 hL0 hB0
  go_wp2
  go_loopw [5] (fun v wr => ∃ i : Nat, v = .int .i64 ((i : Nat) : Int) ∧ i ≤ 5 ∧ Hid (Cells wr g1 41 words5) ∧ Hid (Below w.heap.size w wr) ∧ Hid (∀ k, k < i → ftext (word5 k) ≠ l)) (fun v _ => 10 - (intOf v).toNat)
  case atStart => exact ⟨0, rfl, by omega, HL, HB0, fun k hk => absurd hk (Nat.not_lt_zero _)⟩
  case round =>
    obtain ⟨i, rfl, hi, HA, HB, HN⟩ := hrel
    clear HL HB0 hg1
    by_cases c : i < 5
    · have d0 := Cells.cell HA.out (pwords_at c)
      have i0 : (0 : Int) ≤ ((i : Nat) : Int) := by omega
      have i1 : ((i : Nat) : Int) < 5 := by omega
      have hw1 : IntKind.i64.wrap (((i : Nat) : Int) + 1) = ((i : Nat) : Int) + 1 := by
        rw [IntKind.wrap_i64]
        omega
      have kt := fun w => rtext_any (word5_ok c).1 w
      obtain ⟨TX, hTX⟩ : ∃ z : ByteArray, z = ⟨(ftext (word5 i)).toArray⟩ := ⟨_, rfl⟩
      rw [← hTX] at kt
      have hcmp : (TX.toList == S.toList) = decide (ftext (word5 i) = l) := by
        rw [hTX, HS.out, show (⟨(ftext (word5 i)).toArray⟩ : ByteArray) = strOf (ftext (word5 i)) from rfl, str_toList, str_toList]
        exact Bool.eq_iff_iff.2 (by simp)
      have HC := Lib.hid (pwords_at c)
      have hl1 := HFL.out i c
      obtain ⟨z, hz⟩ : ∃ z : Int, z = ((word5 i : Nat) : Int) := ⟨_, rfl⟩
      rw [← hz] at kt d0 HC
      have hG := Lib.hid (Below.refl wr.heap.size wr)
      have TARM : True := trivial
      by_cases e : ftext (word5 i) = l
      · rw [decide_eq_true e] at hcmp
        have hF := Lib.hid (hl1 e)
        have HZ := Lib.hid hz
        clear hTX e hl1 HFL HFN HN hz
        go_wp2_with (go_at_call 73; with_reducible (refine (kt _).mono ?_); rintro _ _ ⟨rfl, hb⟩; have d1 := Cells.cell (Cells.keep HA.out hb) HC.out; replace hG := Lib.hid (grow_trans hG.out hb); clear hb)
        go_ret2
        exact ⟨by rw [hF.out, HZ.out]; rfl, grow_trans HB.out hG.out⟩
      · rw [decide_eq_false e] at hcmp
        have HN2 : Hid (∀ k, k < i + 1 → ftext (word5 k) ≠ l) := fun k hk => by
          by_cases q : k = i
          · rw [q]
            exact e
          · exact HN.out k (by omega)
        clear hTX e hl1 HFL HFN HN hz
        go_wp2_with (go_at_call 73; with_reducible (refine (kt _).mono ?_); rintro _ _ ⟨rfl, hb⟩; have HA2 := Lib.hid (Cells.keep HA.out hb); replace hG := Lib.hid (grow_trans hG.out hb); clear hb)
        go_roundw
        case rel => exact ⟨i + 1, by first | rfl | simp, by omega, HA2, Lib.hid (grow_trans HB.out hG.out), HN2⟩
        case measure => simp [intOf]; omega
    · have hi5 : i = 5 := by omega
      subst hi5
      have hFT : V = tailV (Lib.hasPrefix l [45]) (Lib.trimPrefix l [45]) := HFN.out HN.out
      have hG := HB
      clear HFL HFN HN HA hi HB
      rw [show ((5 : Nat) : Int) = 5 from rfl]
      cases hlc : l with
      | nil =>
        have ES : S = strOf [] := by rw [HS.out, hlc]
        have kr : ∀ w, Calls Tryz.prog 114 #[.string S] w fun e w' => e = .returned (.tuple #[.int .i64 0, .int .u64 0, .bool false]) ∧ Below w.heap.size w w' := fun w => by
          rw [ES]
          exact run_any (l := []) (by decide) w
        have kr2 := kr
        have hS0 : S.size = 0 := by rw [hsz, hlc]; rfl
        have hbad : tailV (Lib.hasPrefix l [45]) (Lib.trimPrefix l [45]) = (0, 10) := by
          rw [hlc]
          rfl
        rw [hbad] at hFT
        have HF := Lib.hid hFT
        clear hFT hbad hlc ES HS hsz hs
        go_wp2_with (first | (go_at_call 114; first | (with_reducible (refine (kr _).mono ?_); rintro _ _ ⟨rfl, hb⟩; replace hG := Lib.hid (grow_trans hG.out hb); clear hb) | (with_reducible (refine (kr2 _).mono ?_); rintro _ _ ⟨rfl, hb⟩; replace hG := Lib.hid (grow_trans hG.out hb); clear hb)))
        go_ret2
        exact ⟨by rw [HF.out]; rfl, hG.out⟩
      | cons c0 r =>
        have hx0 : 0 < l.length := by rw [hlc]; exact Nat.succ_pos _
        have hxp : (0 : Int) < ((S.size : Nat) : Int) := by omega
        have hS := HS.out
        have hixa := fun w => str_index hx0 w
        have hgx : l[0]'hx0 = c0 := by simp [hlc]
        rw [hgx, ← hS, show ((0 : Nat) : Int) = 0 from rfl] at hixa
        by_cases c5 : c0 = 45
        · have hsla := fun w => str_slice (l := l) (i := 1) (by omega) w
          rw [hlc, List.drop_succ_cons, List.drop_zero, ← hlc, ← hS, show ((1 : Nat) : Int) = 1 from rfl] at hsla
          rw [c5, show (((45 : UInt8).toNat : Nat) : Int) = 45 from rfl] at hixa
          have hxs : (1 : Int) ≤ ((S.size : Nat) : Int) := by omega
          have hst := strip_minus r
          have hF : V = tailV true r := by
            rw [hFT, hlc, c5, hst.1, hst.2]
          have htl : r.length < 1073741824 := by
            rw [hlc, List.length_cons] at hs
            omega
          obtain ⟨TT, hTS⟩ : ∃ x, x = strOf r := ⟨_, rfl⟩
          rw [← hTS] at hsla
          clear hFT hst hgx hlc hS HS hs
          obtain ⟨t, rfl⟩ : ∃ t, t = r := ⟨_, rfl⟩
          have kr := fun w => run_any htl w
          have hTsz : TT.size = t.length := by rw [hTS, ba_size]
          rw [← hTS] at kr
          have hlt := lead_le t
          cases c1 : canonB (t.take (lead t)) with
          | false =>
            rw [c1] at kr
            rw [tail_bad (.inl c1)] at hF
            have HF := Lib.hid hF
            have kr2 := kr
            clear hF c1 hTS
            go_wp2_with (first | (go_at_call 114; first | (with_reducible (refine (kr _).mono ?_); rintro _ _ ⟨rfl, hb⟩; replace hG := Lib.hid (grow_trans hG.out hb); clear hb) | (with_reducible (refine (kr2 _).mono ?_); rintro _ _ ⟨rfl, hb⟩; replace hG := Lib.hid (grow_trans hG.out hb); clear hb)))
            go_ret2
            exact ⟨by rw [HF.out]; rfl, hG.out⟩
          | true =>
            have hll := lead_last c1
            rw [c1] at kr
            obtain ⟨k0, hk, q1, q2, q3⟩ := hll
            have hixn := fun w => str_index hk w
            rw [← hTS, show (((lead t - 1 : Nat)) : Int) = ((lead t : Nat) : Int) - 1 by omega] at hixn
            have hwm : IntKind.i64.wrap (((lead t : Nat) : Int) - 1) = ((lead t : Nat) : Int) - 1 := by
              rw [IntKind.wrap_i64]
              omega
            obtain ⟨cn, hcn⟩ : ∃ z : Nat, z = (t[lead t - 1]'hk).toNat := ⟨_, rfl⟩
            rw [← hcn] at hixn q1 q2 q3
            clear hcn
            have hw8 : IntKind.u8.wrap (((cn : Nat) : Int) - 48) = ((cn : Nat) : Int) - 48 := by
              rw [IntKind.wrap_u8]
              omega
            by_cases c2 : dval (t.take (lead t)) % 2 = 0
            · rw [tail_bad (.inr (.inl c2))] at hF
              have HF := Lib.hid hF
              have kr2 := kr
              have e1 : (((cn : Nat) : Int) - 48) % 2 = 0 := by omega
              have e2 : Int.tmod (((cn : Nat) : Int) - 48) 2 = 0 := by
                rw [Int.tmod_eq_emod_of_nonneg (by omega)]
                exact e1
              clear hF c1 c2 hTS q1 q2 q3
              go_wp2_with (first | (go_at_call 114; first | (with_reducible (refine (kr _).mono ?_); rintro _ _ ⟨rfl, hb⟩; replace hG := Lib.hid (grow_trans hG.out hb); clear hb) | (with_reducible (refine (kr2 _).mono ?_); rintro _ _ ⟨rfl, hb⟩; replace hG := Lib.hid (grow_trans hG.out hb); clear hb)))
              go_ret2
              exact ⟨by rw [HF.out]; rfl, hG.out⟩
            have e1 : (((cn : Nat) : Int) - 48) % 2 = 1 := by omega
            have e2 : Int.tmod (((cn : Nat) : Int) - 48) 2 = 1 := by
              rw [Int.tmod_eq_emod_of_nonneg (by omega)]
              exact e1
            clear q1 q2 q3
            by_cases c3 : lead t < t.length
            · have hixp := fun w => str_index c3 w
              rw [← hTS] at hixp
              have ct1 : (((lead t : Nat) : Int) == ((TT.size : Nat) : Int)) = false := beq_eq_false_iff_ne.2 (by omega)
              have ct2 : ((lead t : Nat) : Int) < ((TT.size : Nat) : Int) := by omega
              by_cases c4 : t[lead t]'c3 = 112
              · rw [c4, show (((112 : UInt8).toNat : Nat) : Int) = 112 from rfl] at hixp
                have hF2 := tail_good (sg := true) c3 c4
                rw [hF2] at hF
                have hsl2 := fun w => str_slice (l := t) (i := lead t + 1) (by omega) w
                rw [← hTS, show (((lead t + 1 : Nat)) : Int) = ((lead t : Nat) : Int) + 1 by omega] at hsl2
                have hwn : IntKind.i64.wrap (((lead t : Nat) : Int) + 1) = ((lead t : Nat) : Int) + 1 := by
                  rw [IntKind.wrap_i64]
                  omega
                have hexl : (t.drop (lead t + 1)).length < 1073741824 := by
                  rw [List.length_drop]
                  omega
                have hso := sat_or (t.take (lead t))
                have hsle := sat_le (t.take (lead t))
                obtain ⟨ex, hex⟩ : ∃ x, x = t.drop (lead t + 1) := ⟨_, rfl⟩
                obtain ⟨od, hod⟩ : ∃ x, x = t.take (lead t) := ⟨_, rfl⟩
                obtain ⟨n, hn⟩ : ∃ x, x = lead t := ⟨_, rfl⟩
                rw [← hex] at hF hsl2 hexl
                rw [← hod] at hF hso hsle kr c1 c2
                rw [← hn] at hsl2 hwn kr ct2 hixn hixp ct1 hwm
                clear hF2 hex hod hTS
                obtain ⟨EX, hEX⟩ : ∃ x, x = strOf ex := ⟨_, rfl⟩
                rw [← hEX] at hsl2
                obtain ⟨sm, hsm⟩ : ∃ x, x = sat od := ⟨_, rfl⟩
                rw [← hsm] at hso hsle kr
                have hxsz : EX.size = ex.length := by rw [hEX, ba_size]
                cases hxc : ex with
                | nil =>
                  have EEX : EX = strOf [] := by rw [hEX, hxc]
                  have kr2 : ∀ w, Calls Tryz.prog 114 #[.string EX] w fun e w' => e = .returned (.tuple #[.int .i64 0, .int .u64 0, .bool false]) ∧ Below w.heap.size w w' := fun w => by
                    rw [EEX]
                    exact run_any (l := []) (by decide) w
                  have hx0 : EX.size = 0 := by rw [hxsz, hxc]; rfl
                  have hbad : fparse.fparse2 true od ex = (0, 10) := by
                    unfold fparse.fparse2
                    rw [hxc]
                    exact if_pos (.inr (.inr (.inl rfl)))
                  rw [hbad] at hF
                  have HF := Lib.hid hF
                  clear hF hbad hso hsle hsm c1 c2 hxc hEX EEX hxsz hexl hn
                  go_wp2_with (first | (go_at_call 114; first | (with_reducible (refine (kr _).mono ?_); rintro _ _ ⟨rfl, hb⟩; replace hG := Lib.hid (grow_trans hG.out hb); clear hb) | (with_reducible (refine (kr2 _).mono ?_); rintro _ _ ⟨rfl, hb⟩; replace hG := Lib.hid (grow_trans hG.out hb); clear hb)))
                  go_ret2
                  exact ⟨by rw [HF.out]; rfl, hG.out⟩
                | cons c0 r =>
                  have hx0 : 0 < ex.length := by rw [hxc]; exact Nat.succ_pos _
                  have hix0 := fun w => str_index hx0 w
                  have hgx : ex[0]'hx0 = c0 := by simp [hxc]
                  rw [hgx, ← hEX, show ((0 : Nat) : Int) = 0 from rfl] at hix0
                  have hxp : (0 : Int) < ((EX.size : Nat) : Int) := by omega
                  by_cases c5 : c0 = 45
                  · have hsl3 := fun w => str_slice (l := ex) (i := 1) (by omega) w
                    have hxs1 : (1 : Int) ≤ ((EX.size : Nat) : Int) := by omega
                    rw [hxc, List.drop_succ_cons, List.drop_zero, ← hxc, ← hEX, show ((1 : Nat) : Int) = 1 from rfl] at hsl3
                    rw [c5, show (((45 : UInt8).toNat : Nat) : Int) = 45 from rfl] at hix0
                    have hst := strip_minus r
                    have hpp : Lib.hasPrefix ex [45] = true ∧ Lib.trimPrefix ex [45] = r := by
                      rw [hxc, c5]
                      exact hst
                    have hrl : r.length < 1073741824 := by
                      rw [hxc, List.length_cons] at hexl
                      omega
                    clear hst
                    have hF3 : fparse.fparse2 true od ex = if canonB od = false ∨ dval od % 2 = 0 ∨ canonB (Lib.trimPrefix ex [45]) = false ∨ (Lib.hasPrefix ex [45] = true ∧ Lib.trimPrefix ex [45] = [48]) then (0, 10) else if 9007199254740992 ≤ dval od ∨ 4000 < dval (Lib.trimPrefix ex [45]) then (0, 11) else if expOf ex < -1074 ∨ D.nearest false (dval od) (expOf ex) = infB then (0, 11) else (D.word true (D.nearest false (dval od) (expOf ex)), 0) := rfl
                    have hexp : expOf ex = if Lib.hasPrefix ex [45] = true then -((dval (Lib.trimPrefix ex [45]) : Nat) : Int) else ((dval (Lib.trimPrefix ex [45]) : Nat) : Int) := rfl
                    rw [hpp.1, hpp.2] at hF3 hexp
                    rw [hF3] at hF
                    have kr2 := fun w => run_any hrl w
                    have hso2 := sat_or (r.take (lead r))
                    have hsle2 := sat_le (r.take (lead r))
                    obtain ⟨E2, hE2⟩ : ∃ x, x = strOf r := ⟨_, rfl⟩
                    have he2 : E2.size = r.length := by rw [hE2, ba_size]
                    rw [← hE2] at kr2 hsl3
                    obtain ⟨se, hse⟩ : ∃ x, x = sat (r.take (lead r)) := ⟨_, rfl⟩
                    rw [← hse] at kr2 hso2 hsle2
                    
                    cases c6 : canonB (r.take (lead r)) with
                    | false =>
                      rw [c6] at kr2
                      rw [if_pos (.inr (.inr (.inl (canon_lead_no (.inl c6)))))] at hF
                      have HF := Lib.hid hF
                      clear hF hF3 hexp hso hsle hsm c1 c2 hxc hEX hxsz hexl hn hpp hso2 hsle2 hse he2 hE2 c6
                      go_wp2_with (first | (go_at_call 114; first | (with_reducible (refine (kr _).mono ?_); rintro _ _ ⟨rfl, hb⟩; replace hG := Lib.hid (grow_trans hG.out hb); clear hb) | (with_reducible (refine (kr2 _).mono ?_); rintro _ _ ⟨rfl, hb⟩; replace hG := Lib.hid (grow_trans hG.out hb); clear hb)))
                      go_ret2
                      exact ⟨by rw [HF.out]; rfl, hG.out⟩
                    | true =>
                      rw [c6] at kr2
                      by_cases c7 : lead r < r.length
                      · rw [if_pos (.inr (.inr (.inl (canon_lead_no (.inr c7)))))] at hF
                        have HF := Lib.hid hF
                        have c7i : ((lead r : Nat) : Int) < ((E2.size : Nat) : Int) := by omega
                        obtain ⟨n2, hn2⟩ : ∃ x, x = lead r := ⟨_, rfl⟩
                        rw [← hn2] at kr2 c7i
                        clear hF hF3 hexp hso hsle hsm c1 c2 hxc hEX hxsz hexl hn hpp hso2 hsle2 hse he2 hE2 c6 c7 hn2
                        go_wp2_with (first | (go_at_call 114; first | (with_reducible (refine (kr _).mono ?_); rintro _ _ ⟨rfl, hb⟩; replace hG := Lib.hid (grow_trans hG.out hb); clear hb) | (with_reducible (refine (kr2 _).mono ?_); rintro _ _ ⟨rfl, hb⟩; replace hG := Lib.hid (grow_trans hG.out hb); clear hb)))
                        go_ret2
                        exact ⟨by rw [HF.out]; rfl, hG.out⟩
                      · have hle2 := lead_le r
                        have hlen : lead r = r.length := by omega
                        rw [hlen, List.take_length] at c6 hso2 hse
                        have c7i : ¬ ((lead r : Nat) : Int) < ((E2.size : Nat) : Int) := by omega
                        obtain ⟨n2, hn2⟩ : ∃ x, x = lead r := ⟨_, rfl⟩
                        rw [← hn2] at kr2 c7i
                        have hz := canon_sat_zero c6
                        rw [← hse] at hz
                        clear c7 hle2 hlen hn2
                        by_cases c8 : se = 0
                        · rw [if_pos (.inr (.inr (.inr ⟨rfl, hz.1 c8⟩)))] at hF
                          have HF := Lib.hid hF
                          rw [c8, show ((0 : Nat) : Int) = 0 from rfl] at kr2
                          clear hF hF3 hexp hso hsle hsm c1 c2 hxc hEX hxsz hexl hn hpp hso2 hsle2 hse he2 hE2 c6 c8 hz
                          go_wp2_with (first | (go_at_call 114; first | (with_reducible (refine (kr _).mono ?_); rintro _ _ ⟨rfl, hb⟩; replace hG := Lib.hid (grow_trans hG.out hb); clear hb) | (with_reducible (refine (kr2 _).mono ?_); rintro _ _ ⟨rfl, hb⟩; replace hG := Lib.hid (grow_trans hG.out hb); clear hb)))
                          go_ret2
                          exact ⟨by rw [HF.out]; rfl, hG.out⟩
                        have c8i : (((se : Nat) : Int) == 0) = false := beq_eq_false_iff_ne.2 (by omega)
                        have hn1 : ¬ (canonB od = false ∨ dval od % 2 = 0 ∨ canonB r = false ∨ (true = true ∧ r = [48])) := by
                          rintro (h | h | h | h)
                          · rw [c1] at h
                            cases h
                          · exact c2 h
                          · rw [c6] at h
                            cases h
                          · exact c8 (hz.2 h.2)
                        rw [if_neg hn1] at hF
                        clear hn1 hz
                        by_cases c9 : 9007199254740992 ≤ sm
                        · rw [if_pos (.inl (by omega))] at hF
                          have HF := Lib.hid hF
                          have c9i : (9007199254740992 : Int) ≤ ((sm : Nat) : Int) := by omega
                          clear hF hF3 hexp hso hsle hsm c1 c2 hxc hEX hxsz hexl hn hpp hso2 hsle2 hse he2 hE2 c6 c9
                          go_wp2_with (first | (go_at_call 114; first | (with_reducible (refine (kr _).mono ?_); rintro _ _ ⟨rfl, hb⟩; replace hG := Lib.hid (grow_trans hG.out hb); clear hb) | (with_reducible (refine (kr2 _).mono ?_); rintro _ _ ⟨rfl, hb⟩; replace hG := Lib.hid (grow_trans hG.out hb); clear hb)))
                          go_ret2
                          exact ⟨by rw [HF.out]; rfl, hG.out⟩
                        have hdm : dval od = sm := by omega
                        have c9i : decide ((9007199254740992 : Int) ≤ ((sm : Nat) : Int)) = false := decide_eq_false (by omega)
                        by_cases c10 : 4000 < se
                        · rw [if_pos (.inr (by omega))] at hF
                          have HF := Lib.hid hF
                          have c10i : (4000 : Int) < ((se : Nat) : Int) := by omega
                          clear hF hF3 hexp hso hsle hsm c1 c2 hxc hEX hxsz hexl hn hpp hso2 hsle2 hse he2 hE2 c6 c9 c10 hdm
                          go_wp2_with (first | (go_at_call 114; first | (with_reducible (refine (kr _).mono ?_); rintro _ _ ⟨rfl, hb⟩; replace hG := Lib.hid (grow_trans hG.out hb); clear hb) | (with_reducible (refine (kr2 _).mono ?_); rintro _ _ ⟨rfl, hb⟩; replace hG := Lib.hid (grow_trans hG.out hb); clear hb)))
                          go_ret2
                          exact ⟨by rw [HF.out]; rfl, hG.out⟩
                        have hde : dval r = se := by omega
                        have c10i : ¬ (4000 : Int) < ((se : Nat) : Int) := by omega
                        rw [if_neg (by rintro (h | h) <;> omega)] at hF
                        rw [hde] at hexp
                        rw [hdm] at hF c2
                        have hw64 : IntKind.i64.wrap ((se : Nat) : Int) = ((se : Nat) : Int) := by
                          rw [IntKind.wrap_i64]
                          omega
                        rw [if_pos rfl] at hexp
                        have hwn2 : IntKind.i64.wrap (-((se : Nat) : Int)) = -((se : Nat) : Int) := by
                          rw [IntKind.wrap_i64]
                          omega
                        by_cases c11 : -((se : Nat) : Int) < -1074
                        · rw [hexp, if_pos (.inl c11)] at hF
                          have HF := Lib.hid hF
                          clear hF hF3 hexp hso hsle hsm c1 c2 hxc hEX hxsz hexl hn hpp hso2 hsle2 hse he2 hE2 c6 c9 c10 hdm hde
                          go_wp2_with (first | (go_at_call 114; first | (with_reducible (refine (kr _).mono ?_); rintro _ _ ⟨rfl, hb⟩; replace hG := Lib.hid (grow_trans hG.out hb); clear hb) | (with_reducible (refine (kr2 _).mono ?_); rintro _ _ ⟨rfl, hb⟩; replace hG := Lib.hid (grow_trans hG.out hb); clear hb)))
                          go_ret2
                          exact ⟨by rw [HF.out]; rfl, hG.out⟩
                        rw [hexp] at hF
                        have hnl := nearest_le sm (-((se : Nat) : Int))
                        obtain ⟨wf1, wf2, wf3⟩ := word_facts true hnl
                        have hsm0 : sm ≠ 0 := by omega
                        have kro := fun w => rounded_any true false (w := sm) (e := (-((se : Nat) : Int))) (by omega) (by omega) (by omega) w
                        rw [rnd_nearest true (-((se : Nat) : Int)) hsm0 (by omega)] at kro
                        have hwn : D.word true (D.nearest false sm (-((se : Nat) : Int))) = D.nearest true sm (-((se : Nat) : Int)) := by
                          obtain ⟨r, h1, h2⟩ := nearest_rung false sm (-((se : Nat) : Int))
                          rw [h2 false, h2 true, word_f]
                        rw [← hwn] at kro
                        have hwv : wv sm = .agg #[.int .u64 0, .int .u64 ((sm : Nat) : Int)] := by
                          unfold wv
                          rw [Nat.div_eq_of_lt (by omega), Nat.mod_eq_of_lt (by omega)]
                          rfl
                        rw [hwv] at kro
                        have hwlt : D.word true (D.nearest false sm (-((se : Nat) : Int))) < 18446744073709551616 := by
                          have := word_sgn true (D.nearest false sm (-((se : Nat) : Int)))
                          have h2 : sgn true ≤ 9223372036854775808 := by decide
                          have h3 : infB = 9218868437227405312 := rfl
                          omega
                        have fA := andNot_sign (D.word true (D.nearest false sm (-((se : Nat) : Int)))) hwlt
                        have wf4 : D.word true (D.nearest false sm (-((se : Nat) : Int))) % 9223372036854775808 = D.nearest false sm (-((se : Nat) : Int)) := wf3
                        rw [wf4] at fA
                        obtain ⟨r, hr⟩ : ∃ x, x = D.nearest false sm (-((se : Nat) : Int)) := ⟨_, rfl⟩
                        rw [← hr] at hF kro fA
                        obtain ⟨wd, hwd⟩ : ∃ x, x = D.word true r := ⟨_, rfl⟩
                        rw [← hwd] at hF kro fA
                        rw [show ((sgn true : Nat) : Int) = 9223372036854775808 from rfl] at kro
                        clear wf1 wf2 wf3 wf4 hnl hwn hwv hwlt hr hwd
                        by_cases c12 : r = infB
                        · rw [if_pos (.inr c12)] at hF
                          rw [c12, show ((infB : Nat) : Int) = 9218868437227405312 from rfl] at fA
                          have HF := Lib.hid hF
                          clear hF hF3 hexp hso hsle hsm c1 c2 hxc hEX hxsz hexl hn hpp hso2 hsle2 hse he2 hE2 c6 c9 c10 hdm hde c12 hsm0
                          go_wp2_with (first | (go_at_call 114; first | (with_reducible (refine (kr _).mono ?_); rintro _ _ ⟨rfl, hb⟩; replace hG := Lib.hid (grow_trans hG.out hb); clear hb) | (with_reducible (refine (kr2 _).mono ?_); rintro _ _ ⟨rfl, hb⟩; replace hG := Lib.hid (grow_trans hG.out hb); clear hb)) | (go_at_call 115; with_reducible (refine (kro _).mono ?_); rintro _ _ ⟨rfl, hb⟩; replace hG := Lib.hid (grow_trans hG.out hb); clear hb))
                          go_ret2
                          exact ⟨by rw [HF.out]; rfl, hG.out⟩
                        · rw [if_neg (by rintro (h | h); exact c11 h; exact c12 h)] at hF
                          have h3 : infB = 9218868437227405312 := rfl
                          have hri : (((r : Nat) : Int) == 9218868437227405312) = false := beq_eq_false_iff_ne.2 fun h => c12 (by omega)
                          clear h3
                          have HF := Lib.hid hF
                          clear hF hF3 hexp hso hsle hsm c1 c2 hxc hEX hxsz hexl hn hpp hso2 hsle2 hse he2 hE2 c6 c9 c10 hdm hde c12 hsm0
                          go_wp2_with (first | (go_at_call 114; first | (with_reducible (refine (kr _).mono ?_); rintro _ _ ⟨rfl, hb⟩; replace hG := Lib.hid (grow_trans hG.out hb); clear hb) | (with_reducible (refine (kr2 _).mono ?_); rintro _ _ ⟨rfl, hb⟩; replace hG := Lib.hid (grow_trans hG.out hb); clear hb)) | (go_at_call 115; with_reducible (refine (kro _).mono ?_); rintro _ _ ⟨rfl, hb⟩; replace hG := Lib.hid (grow_trans hG.out hb); clear hb))
                          go_ret2
                          exact ⟨by rw [HF.out]; rfl, hG.out⟩
                  · have hpp : Lib.hasPrefix ex [45] = false ∧ Lib.trimPrefix ex [45] = ex := by
                      rw [hxc]
                      exact strip_other c5
                    have hc5 : (((c0.toNat : Nat) : Int) == 45) = false := beq_eq_false_iff_ne.2 fun h => c5 (UInt8.toNat_inj.1 (by show c0.toNat = 45; omega))
                    obtain ⟨ci, hci⟩ : ∃ z : Int, z = ((c0.toNat : Nat) : Int) := ⟨_, rfl⟩
                    rw [← hci] at hc5 hix0
                    have hrl : ex.length < 1073741824 := hexl
                    clear hci
                    have hF3 : fparse.fparse2 true od ex = if canonB od = false ∨ dval od % 2 = 0 ∨ canonB (Lib.trimPrefix ex [45]) = false ∨ (Lib.hasPrefix ex [45] = true ∧ Lib.trimPrefix ex [45] = [48]) then (0, 10) else if 9007199254740992 ≤ dval od ∨ 4000 < dval (Lib.trimPrefix ex [45]) then (0, 11) else if expOf ex < -1074 ∨ D.nearest false (dval od) (expOf ex) = infB then (0, 11) else (D.word true (D.nearest false (dval od) (expOf ex)), 0) := rfl
                    have hexp : expOf ex = if Lib.hasPrefix ex [45] = true then -((dval (Lib.trimPrefix ex [45]) : Nat) : Int) else ((dval (Lib.trimPrefix ex [45]) : Nat) : Int) := rfl
                    rw [hpp.1, hpp.2] at hF3 hexp
                    rw [hF3] at hF
                    have kr2 := fun w => run_any hrl w
                    have hso2 := sat_or (ex.take (lead ex))
                    have hsle2 := sat_le (ex.take (lead ex))
                    obtain ⟨E2, hE2⟩ : ∃ x, x = strOf ex := ⟨_, rfl⟩
                    have he2 : E2.size = ex.length := by rw [hE2, ba_size]
                    rw [← hE2] at kr2
                    obtain ⟨se, hse⟩ : ∃ x, x = sat (ex.take (lead ex)) := ⟨_, rfl⟩
                    rw [← hse] at kr2 hso2 hsle2
                    have hEE : EX = E2 := by rw [hEX, hE2]
                    rw [hEE] at hsl2 hix0 hxp
                    cases c6 : canonB (ex.take (lead ex)) with
                    | false =>
                      rw [c6] at kr2
                      rw [if_pos (.inr (.inr (.inl (canon_lead_no (.inl c6)))))] at hF
                      have HF := Lib.hid hF
                      clear hF hF3 hexp hso hsle hsm c1 c2 hxc hEX hxsz hexl hn hpp hso2 hsle2 hse he2 hE2 c6
                      go_wp2_with (first | (go_at_call 114; first | (with_reducible (refine (kr _).mono ?_); rintro _ _ ⟨rfl, hb⟩; replace hG := Lib.hid (grow_trans hG.out hb); clear hb) | (with_reducible (refine (kr2 _).mono ?_); rintro _ _ ⟨rfl, hb⟩; replace hG := Lib.hid (grow_trans hG.out hb); clear hb)))
                      go_ret2
                      exact ⟨by rw [HF.out]; rfl, hG.out⟩
                    | true =>
                      rw [c6] at kr2
                      by_cases c7 : lead ex < ex.length
                      · rw [if_pos (.inr (.inr (.inl (canon_lead_no (.inr c7)))))] at hF
                        have HF := Lib.hid hF
                        have c7i : ((lead ex : Nat) : Int) < ((E2.size : Nat) : Int) := by omega
                        obtain ⟨n2, hn2⟩ : ∃ x, x = lead ex := ⟨_, rfl⟩
                        rw [← hn2] at kr2 c7i
                        clear hF hF3 hexp hso hsle hsm c1 c2 hxc hEX hxsz hexl hn hpp hso2 hsle2 hse he2 hE2 c6 c7 hn2
                        go_wp2_with (first | (go_at_call 114; first | (with_reducible (refine (kr _).mono ?_); rintro _ _ ⟨rfl, hb⟩; replace hG := Lib.hid (grow_trans hG.out hb); clear hb) | (with_reducible (refine (kr2 _).mono ?_); rintro _ _ ⟨rfl, hb⟩; replace hG := Lib.hid (grow_trans hG.out hb); clear hb)))
                        go_ret2
                        exact ⟨by rw [HF.out]; rfl, hG.out⟩
                      · have hle2 := lead_le ex
                        have hlen : lead ex = ex.length := by omega
                        rw [hlen, List.take_length] at c6 hso2 hse
                        have c7i : ¬ ((lead ex : Nat) : Int) < ((E2.size : Nat) : Int) := by omega
                        obtain ⟨n2, hn2⟩ : ∃ x, x = lead ex := ⟨_, rfl⟩
                        rw [← hn2] at kr2 c7i
                        have hz := canon_sat_zero c6
                        rw [← hse] at hz
                        clear c7 hle2 hlen hn2
                        have hn1 : ¬ (canonB od = false ∨ dval od % 2 = 0 ∨ canonB ex = false ∨ (false = true ∧ ex = [48])) := by
                          rintro (h | h | h | h)
                          · rw [c1] at h
                            cases h
                          · exact c2 h
                          · rw [c6] at h
                            cases h
                          · exact absurd h.1 (by decide)
                        rw [if_neg hn1] at hF
                        clear hn1 hz
                        by_cases c9 : 9007199254740992 ≤ sm
                        · rw [if_pos (.inl (by omega))] at hF
                          have HF := Lib.hid hF
                          have c9i : (9007199254740992 : Int) ≤ ((sm : Nat) : Int) := by omega
                          clear hF hF3 hexp hso hsle hsm c1 c2 hxc hEX hxsz hexl hn hpp hso2 hsle2 hse he2 hE2 c6 c9
                          go_wp2_with (first | (go_at_call 114; first | (with_reducible (refine (kr _).mono ?_); rintro _ _ ⟨rfl, hb⟩; replace hG := Lib.hid (grow_trans hG.out hb); clear hb) | (with_reducible (refine (kr2 _).mono ?_); rintro _ _ ⟨rfl, hb⟩; replace hG := Lib.hid (grow_trans hG.out hb); clear hb)))
                          go_ret2
                          exact ⟨by rw [HF.out]; rfl, hG.out⟩
                        have hdm : dval od = sm := by omega
                        have c9i : decide ((9007199254740992 : Int) ≤ ((sm : Nat) : Int)) = false := decide_eq_false (by omega)
                        by_cases c10 : 4000 < se
                        · rw [if_pos (.inr (by omega))] at hF
                          have HF := Lib.hid hF
                          have c10i : (4000 : Int) < ((se : Nat) : Int) := by omega
                          clear hF hF3 hexp hso hsle hsm c1 c2 hxc hEX hxsz hexl hn hpp hso2 hsle2 hse he2 hE2 c6 c9 c10 hdm
                          go_wp2_with (first | (go_at_call 114; first | (with_reducible (refine (kr _).mono ?_); rintro _ _ ⟨rfl, hb⟩; replace hG := Lib.hid (grow_trans hG.out hb); clear hb) | (with_reducible (refine (kr2 _).mono ?_); rintro _ _ ⟨rfl, hb⟩; replace hG := Lib.hid (grow_trans hG.out hb); clear hb)))
                          go_ret2
                          exact ⟨by rw [HF.out]; rfl, hG.out⟩
                        have hde : dval ex = se := by omega
                        have c10i : ¬ (4000 : Int) < ((se : Nat) : Int) := by omega
                        rw [if_neg (by rintro (h | h) <;> omega)] at hF
                        rw [hde] at hexp
                        rw [hdm] at hF c2
                        have hw64 : IntKind.i64.wrap ((se : Nat) : Int) = ((se : Nat) : Int) := by
                          rw [IntKind.wrap_i64]
                          omega
                        rw [if_neg (by decide)] at hexp
                        have c11 : ¬ ((se : Nat) : Int) < -1074 := by omega
                        rw [hexp] at hF
                        have hnl := nearest_le sm ((se : Nat) : Int)
                        obtain ⟨wf1, wf2, wf3⟩ := word_facts true hnl
                        have hsm0 : sm ≠ 0 := by omega
                        have kro := fun w => rounded_any true false (w := sm) (e := ((se : Nat) : Int)) (by omega) (by omega) (by omega) w
                        rw [rnd_nearest true ((se : Nat) : Int) hsm0 (by omega)] at kro
                        have hwn : D.word true (D.nearest false sm ((se : Nat) : Int)) = D.nearest true sm ((se : Nat) : Int) := by
                          obtain ⟨r, h1, h2⟩ := nearest_rung false sm ((se : Nat) : Int)
                          rw [h2 false, h2 true, word_f]
                        rw [← hwn] at kro
                        have hwv : wv sm = .agg #[.int .u64 0, .int .u64 ((sm : Nat) : Int)] := by
                          unfold wv
                          rw [Nat.div_eq_of_lt (by omega), Nat.mod_eq_of_lt (by omega)]
                          rfl
                        rw [hwv] at kro
                        have hwlt : D.word true (D.nearest false sm ((se : Nat) : Int)) < 18446744073709551616 := by
                          have := word_sgn true (D.nearest false sm ((se : Nat) : Int))
                          have h2 : sgn true ≤ 9223372036854775808 := by decide
                          have h3 : infB = 9218868437227405312 := rfl
                          omega
                        have fA := andNot_sign (D.word true (D.nearest false sm ((se : Nat) : Int))) hwlt
                        have wf4 : D.word true (D.nearest false sm ((se : Nat) : Int)) % 9223372036854775808 = D.nearest false sm ((se : Nat) : Int) := wf3
                        rw [wf4] at fA
                        obtain ⟨r, hr⟩ : ∃ x, x = D.nearest false sm ((se : Nat) : Int) := ⟨_, rfl⟩
                        rw [← hr] at hF kro fA
                        obtain ⟨wd, hwd⟩ : ∃ x, x = D.word true r := ⟨_, rfl⟩
                        rw [← hwd] at hF kro fA
                        rw [show ((sgn true : Nat) : Int) = 9223372036854775808 from rfl] at kro
                        clear wf1 wf2 wf3 wf4 hnl hwn hwv hwlt hr hwd
                        by_cases c12 : r = infB
                        · rw [if_pos (.inr c12)] at hF
                          rw [c12, show ((infB : Nat) : Int) = 9218868437227405312 from rfl] at fA
                          have HF := Lib.hid hF
                          clear hF hF3 hexp hso hsle hsm c1 c2 hxc hEX hxsz hexl hn hpp hso2 hsle2 hse he2 hE2 c6 c9 c10 hdm hde c12 hsm0
                          go_wp2_with (first | (go_at_call 114; first | (with_reducible (refine (kr _).mono ?_); rintro _ _ ⟨rfl, hb⟩; replace hG := Lib.hid (grow_trans hG.out hb); clear hb) | (with_reducible (refine (kr2 _).mono ?_); rintro _ _ ⟨rfl, hb⟩; replace hG := Lib.hid (grow_trans hG.out hb); clear hb)) | (go_at_call 115; with_reducible (refine (kro _).mono ?_); rintro _ _ ⟨rfl, hb⟩; replace hG := Lib.hid (grow_trans hG.out hb); clear hb))
                          go_ret2
                          exact ⟨by rw [HF.out]; rfl, hG.out⟩
                        · rw [if_neg (by rintro (h | h); exact c11 h; exact c12 h)] at hF
                          have h3 : infB = 9218868437227405312 := rfl
                          have hri : (((r : Nat) : Int) == 9218868437227405312) = false := beq_eq_false_iff_ne.2 fun h => c12 (by omega)
                          clear h3
                          have HF := Lib.hid hF
                          clear hF hF3 hexp hso hsle hsm c1 c2 hxc hEX hxsz hexl hn hpp hso2 hsle2 hse he2 hE2 c6 c9 c10 hdm hde c12 hsm0
                          go_wp2_with (first | (go_at_call 114; first | (with_reducible (refine (kr _).mono ?_); rintro _ _ ⟨rfl, hb⟩; replace hG := Lib.hid (grow_trans hG.out hb); clear hb) | (with_reducible (refine (kr2 _).mono ?_); rintro _ _ ⟨rfl, hb⟩; replace hG := Lib.hid (grow_trans hG.out hb); clear hb)) | (go_at_call 115; with_reducible (refine (kro _).mono ?_); rintro _ _ ⟨rfl, hb⟩; replace hG := Lib.hid (grow_trans hG.out hb); clear hb))
                          go_ret2
                          exact ⟨by rw [HF.out]; rfl, hG.out⟩
              · rw [tail_bad (.inr (.inr fun _ => c4))] at hF
                have HF := Lib.hid hF
                have kr2 := kr
                have hp1 : ((((t[lead t]'c3).toNat : Nat) : Int) != 112) = true := bne_iff_ne.2 fun h => c4 (UInt8.toNat_inj.1 (by show (t[lead t]'c3).toNat = 112; omega))
                obtain ⟨pi, hpi⟩ : ∃ z : Int, z = (((t[lead t]'c3).toNat : Nat) : Int) := ⟨_, rfl⟩
                rw [← hpi] at hixp hp1
                clear hF c1 c2 c4 hTS hpi
                go_wp2_with (first | (go_at_call 114; first | (with_reducible (refine (kr _).mono ?_); rintro _ _ ⟨rfl, hb⟩; replace hG := Lib.hid (grow_trans hG.out hb); clear hb) | (with_reducible (refine (kr2 _).mono ?_); rintro _ _ ⟨rfl, hb⟩; replace hG := Lib.hid (grow_trans hG.out hb); clear hb)))
                go_ret2
                exact ⟨by rw [HF.out]; rfl, hG.out⟩
            · rw [tail_bad (.inr (.inr fun k => absurd k c3))] at hF
              have HF := Lib.hid hF
              have kr2 := kr
              have hnl : lead t = t.length := by omega
              rw [hnl] at kr2 hixn hwm
              clear hF c1 c2 hTS hnl kr
              have kr := kr2
              go_wp2_with (first | (go_at_call 114; first | (with_reducible (refine (kr _).mono ?_); rintro _ _ ⟨rfl, hb⟩; replace hG := Lib.hid (grow_trans hG.out hb); clear hb) | (with_reducible (refine (kr2 _).mono ?_); rintro _ _ ⟨rfl, hb⟩; replace hG := Lib.hid (grow_trans hG.out hb); clear hb)))
              go_ret2
              exact ⟨by rw [HF.out]; rfl, hG.out⟩
        · have hF : V = tailV false l := by
            have h1 := strip_other (l := r) c5
            rw [hFT, hlc, h1.1, h1.2]
          have htl := hs
          have hc5 : (((c0.toNat : Nat) : Int) == 45) = false := beq_eq_false_iff_ne.2 fun h => c5 (UInt8.toNat_inj.1 (by show c0.toNat = 45; omega))
          obtain ⟨ca, hca⟩ : ∃ z : Int, z = ((c0.toNat : Nat) : Int) := ⟨_, rfl⟩
          rw [← hca] at hc5 hixa
          obtain ⟨TT, hTS⟩ : ∃ x, x = S := ⟨_, rfl⟩
          rw [← hTS] at hixa hxp hS hsz ⊢
          clear hFT hgx hlc hca HS hs hTS hsz
          have hTS := hS
          clear hS
          obtain ⟨t, rfl⟩ : ∃ t, t = l := ⟨_, rfl⟩
          have kr := fun w => run_any htl w
          have hTsz : TT.size = t.length := by rw [hTS, ba_size]
          rw [← hTS] at kr
          have hlt := lead_le t
          cases c1 : canonB (t.take (lead t)) with
          | false =>
            rw [c1] at kr
            rw [tail_bad (.inl c1)] at hF
            have HF := Lib.hid hF
            have kr2 := kr
            clear hF c1 hTS
            go_wp2_with (first | (go_at_call 114; first | (with_reducible (refine (kr _).mono ?_); rintro _ _ ⟨rfl, hb⟩; replace hG := Lib.hid (grow_trans hG.out hb); clear hb) | (with_reducible (refine (kr2 _).mono ?_); rintro _ _ ⟨rfl, hb⟩; replace hG := Lib.hid (grow_trans hG.out hb); clear hb)))
            go_ret2
            exact ⟨by rw [HF.out]; rfl, hG.out⟩
          | true =>
            have hll := lead_last c1
            rw [c1] at kr
            obtain ⟨k0, hk, q1, q2, q3⟩ := hll
            have hixn := fun w => str_index hk w
            rw [← hTS, show (((lead t - 1 : Nat)) : Int) = ((lead t : Nat) : Int) - 1 by omega] at hixn
            have hwm : IntKind.i64.wrap (((lead t : Nat) : Int) - 1) = ((lead t : Nat) : Int) - 1 := by
              rw [IntKind.wrap_i64]
              omega
            obtain ⟨cn, hcn⟩ : ∃ z : Nat, z = (t[lead t - 1]'hk).toNat := ⟨_, rfl⟩
            rw [← hcn] at hixn q1 q2 q3
            clear hcn
            have hw8 : IntKind.u8.wrap (((cn : Nat) : Int) - 48) = ((cn : Nat) : Int) - 48 := by
              rw [IntKind.wrap_u8]
              omega
            by_cases c2 : dval (t.take (lead t)) % 2 = 0
            · rw [tail_bad (.inr (.inl c2))] at hF
              have HF := Lib.hid hF
              have kr2 := kr
              have e1 : (((cn : Nat) : Int) - 48) % 2 = 0 := by omega
              have e2 : Int.tmod (((cn : Nat) : Int) - 48) 2 = 0 := by
                rw [Int.tmod_eq_emod_of_nonneg (by omega)]
                exact e1
              clear hF c1 c2 hTS q1 q2 q3
              go_wp2_with (first | (go_at_call 114; first | (with_reducible (refine (kr _).mono ?_); rintro _ _ ⟨rfl, hb⟩; replace hG := Lib.hid (grow_trans hG.out hb); clear hb) | (with_reducible (refine (kr2 _).mono ?_); rintro _ _ ⟨rfl, hb⟩; replace hG := Lib.hid (grow_trans hG.out hb); clear hb)))
              go_ret2
              exact ⟨by rw [HF.out]; rfl, hG.out⟩
            have e1 : (((cn : Nat) : Int) - 48) % 2 = 1 := by omega
            have e2 : Int.tmod (((cn : Nat) : Int) - 48) 2 = 1 := by
              rw [Int.tmod_eq_emod_of_nonneg (by omega)]
              exact e1
            clear q1 q2 q3
            by_cases c3 : lead t < t.length
            · have hixp := fun w => str_index c3 w
              rw [← hTS] at hixp
              have ct1 : (((lead t : Nat) : Int) == ((TT.size : Nat) : Int)) = false := beq_eq_false_iff_ne.2 (by omega)
              have ct2 : ((lead t : Nat) : Int) < ((TT.size : Nat) : Int) := by omega
              by_cases c4 : t[lead t]'c3 = 112
              · rw [c4, show (((112 : UInt8).toNat : Nat) : Int) = 112 from rfl] at hixp
                have hF2 := tail_good (sg := false) c3 c4
                rw [hF2] at hF
                have hsl2 := fun w => str_slice (l := t) (i := lead t + 1) (by omega) w
                rw [← hTS, show (((lead t + 1 : Nat)) : Int) = ((lead t : Nat) : Int) + 1 by omega] at hsl2
                have hwn : IntKind.i64.wrap (((lead t : Nat) : Int) + 1) = ((lead t : Nat) : Int) + 1 := by
                  rw [IntKind.wrap_i64]
                  omega
                have hexl : (t.drop (lead t + 1)).length < 1073741824 := by
                  rw [List.length_drop]
                  omega
                have hso := sat_or (t.take (lead t))
                have hsle := sat_le (t.take (lead t))
                obtain ⟨ex, hex⟩ : ∃ x, x = t.drop (lead t + 1) := ⟨_, rfl⟩
                obtain ⟨od, hod⟩ : ∃ x, x = t.take (lead t) := ⟨_, rfl⟩
                obtain ⟨n, hn⟩ : ∃ x, x = lead t := ⟨_, rfl⟩
                rw [← hex] at hF hsl2 hexl
                rw [← hod] at hF hso hsle kr c1 c2
                rw [← hn] at hsl2 hwn kr ct2 hixn hixp ct1 hwm
                clear hF2 hex hod hTS
                obtain ⟨EX, hEX⟩ : ∃ x, x = strOf ex := ⟨_, rfl⟩
                rw [← hEX] at hsl2
                obtain ⟨sm, hsm⟩ : ∃ x, x = sat od := ⟨_, rfl⟩
                rw [← hsm] at hso hsle kr
                have hxsz : EX.size = ex.length := by rw [hEX, ba_size]
                cases hxc : ex with
                | nil =>
                  have EEX : EX = strOf [] := by rw [hEX, hxc]
                  have kr2 : ∀ w, Calls Tryz.prog 114 #[.string EX] w fun e w' => e = .returned (.tuple #[.int .i64 0, .int .u64 0, .bool false]) ∧ Below w.heap.size w w' := fun w => by
                    rw [EEX]
                    exact run_any (l := []) (by decide) w
                  have hx0 : EX.size = 0 := by rw [hxsz, hxc]; rfl
                  have hbad : fparse.fparse2 false od ex = (0, 10) := by
                    unfold fparse.fparse2
                    rw [hxc]
                    exact if_pos (.inr (.inr (.inl rfl)))
                  rw [hbad] at hF
                  have HF := Lib.hid hF
                  clear hF hbad hso hsle hsm c1 c2 hxc hEX EEX hxsz hexl hn
                  go_wp2_with (first | (go_at_call 114; first | (with_reducible (refine (kr _).mono ?_); rintro _ _ ⟨rfl, hb⟩; replace hG := Lib.hid (grow_trans hG.out hb); clear hb) | (with_reducible (refine (kr2 _).mono ?_); rintro _ _ ⟨rfl, hb⟩; replace hG := Lib.hid (grow_trans hG.out hb); clear hb)))
                  go_ret2
                  exact ⟨by rw [HF.out]; rfl, hG.out⟩
                | cons c0 r =>
                  have hx0 : 0 < ex.length := by rw [hxc]; exact Nat.succ_pos _
                  have hix0 := fun w => str_index hx0 w
                  have hgx : ex[0]'hx0 = c0 := by simp [hxc]
                  rw [hgx, ← hEX, show ((0 : Nat) : Int) = 0 from rfl] at hix0
                  have hxp : (0 : Int) < ((EX.size : Nat) : Int) := by omega
                  by_cases c5 : c0 = 45
                  · have hsl3 := fun w => str_slice (l := ex) (i := 1) (by omega) w
                    have hxs1 : (1 : Int) ≤ ((EX.size : Nat) : Int) := by omega
                    rw [hxc, List.drop_succ_cons, List.drop_zero, ← hxc, ← hEX, show ((1 : Nat) : Int) = 1 from rfl] at hsl3
                    rw [c5, show (((45 : UInt8).toNat : Nat) : Int) = 45 from rfl] at hix0
                    have hst := strip_minus r
                    have hpp : Lib.hasPrefix ex [45] = true ∧ Lib.trimPrefix ex [45] = r := by
                      rw [hxc, c5]
                      exact hst
                    have hrl : r.length < 1073741824 := by
                      rw [hxc, List.length_cons] at hexl
                      omega
                    clear hst
                    have hF3 : fparse.fparse2 false od ex = if canonB od = false ∨ dval od % 2 = 0 ∨ canonB (Lib.trimPrefix ex [45]) = false ∨ (Lib.hasPrefix ex [45] = true ∧ Lib.trimPrefix ex [45] = [48]) then (0, 10) else if 9007199254740992 ≤ dval od ∨ 4000 < dval (Lib.trimPrefix ex [45]) then (0, 11) else if expOf ex < -1074 ∨ D.nearest false (dval od) (expOf ex) = infB then (0, 11) else (D.word false (D.nearest false (dval od) (expOf ex)), 0) := rfl
                    have hexp : expOf ex = if Lib.hasPrefix ex [45] = true then -((dval (Lib.trimPrefix ex [45]) : Nat) : Int) else ((dval (Lib.trimPrefix ex [45]) : Nat) : Int) := rfl
                    rw [hpp.1, hpp.2] at hF3 hexp
                    rw [hF3] at hF
                    have kr2 := fun w => run_any hrl w
                    have hso2 := sat_or (r.take (lead r))
                    have hsle2 := sat_le (r.take (lead r))
                    obtain ⟨E2, hE2⟩ : ∃ x, x = strOf r := ⟨_, rfl⟩
                    have he2 : E2.size = r.length := by rw [hE2, ba_size]
                    rw [← hE2] at kr2 hsl3
                    obtain ⟨se, hse⟩ : ∃ x, x = sat (r.take (lead r)) := ⟨_, rfl⟩
                    rw [← hse] at kr2 hso2 hsle2
                    
                    cases c6 : canonB (r.take (lead r)) with
                    | false =>
                      rw [c6] at kr2
                      rw [if_pos (.inr (.inr (.inl (canon_lead_no (.inl c6)))))] at hF
                      have HF := Lib.hid hF
                      clear hF hF3 hexp hso hsle hsm c1 c2 hxc hEX hxsz hexl hn hpp hso2 hsle2 hse he2 hE2 c6
                      go_wp2_with (first | (go_at_call 114; first | (with_reducible (refine (kr _).mono ?_); rintro _ _ ⟨rfl, hb⟩; replace hG := Lib.hid (grow_trans hG.out hb); clear hb) | (with_reducible (refine (kr2 _).mono ?_); rintro _ _ ⟨rfl, hb⟩; replace hG := Lib.hid (grow_trans hG.out hb); clear hb)))
                      go_ret2
                      exact ⟨by rw [HF.out]; rfl, hG.out⟩
                    | true =>
                      rw [c6] at kr2
                      by_cases c7 : lead r < r.length
                      · rw [if_pos (.inr (.inr (.inl (canon_lead_no (.inr c7)))))] at hF
                        have HF := Lib.hid hF
                        have c7i : ((lead r : Nat) : Int) < ((E2.size : Nat) : Int) := by omega
                        obtain ⟨n2, hn2⟩ : ∃ x, x = lead r := ⟨_, rfl⟩
                        rw [← hn2] at kr2 c7i
                        clear hF hF3 hexp hso hsle hsm c1 c2 hxc hEX hxsz hexl hn hpp hso2 hsle2 hse he2 hE2 c6 c7 hn2
                        go_wp2_with (first | (go_at_call 114; first | (with_reducible (refine (kr _).mono ?_); rintro _ _ ⟨rfl, hb⟩; replace hG := Lib.hid (grow_trans hG.out hb); clear hb) | (with_reducible (refine (kr2 _).mono ?_); rintro _ _ ⟨rfl, hb⟩; replace hG := Lib.hid (grow_trans hG.out hb); clear hb)))
                        go_ret2
                        exact ⟨by rw [HF.out]; rfl, hG.out⟩
                      · have hle2 := lead_le r
                        have hlen : lead r = r.length := by omega
                        rw [hlen, List.take_length] at c6 hso2 hse
                        have c7i : ¬ ((lead r : Nat) : Int) < ((E2.size : Nat) : Int) := by omega
                        obtain ⟨n2, hn2⟩ : ∃ x, x = lead r := ⟨_, rfl⟩
                        rw [← hn2] at kr2 c7i
                        have hz := canon_sat_zero c6
                        rw [← hse] at hz
                        clear c7 hle2 hlen hn2
                        by_cases c8 : se = 0
                        · rw [if_pos (.inr (.inr (.inr ⟨rfl, hz.1 c8⟩)))] at hF
                          have HF := Lib.hid hF
                          rw [c8, show ((0 : Nat) : Int) = 0 from rfl] at kr2
                          clear hF hF3 hexp hso hsle hsm c1 c2 hxc hEX hxsz hexl hn hpp hso2 hsle2 hse he2 hE2 c6 c8 hz
                          go_wp2_with (first | (go_at_call 114; first | (with_reducible (refine (kr _).mono ?_); rintro _ _ ⟨rfl, hb⟩; replace hG := Lib.hid (grow_trans hG.out hb); clear hb) | (with_reducible (refine (kr2 _).mono ?_); rintro _ _ ⟨rfl, hb⟩; replace hG := Lib.hid (grow_trans hG.out hb); clear hb)))
                          go_ret2
                          exact ⟨by rw [HF.out]; rfl, hG.out⟩
                        have c8i : (((se : Nat) : Int) == 0) = false := beq_eq_false_iff_ne.2 (by omega)
                        have hn1 : ¬ (canonB od = false ∨ dval od % 2 = 0 ∨ canonB r = false ∨ (true = true ∧ r = [48])) := by
                          rintro (h | h | h | h)
                          · rw [c1] at h
                            cases h
                          · exact c2 h
                          · rw [c6] at h
                            cases h
                          · exact c8 (hz.2 h.2)
                        rw [if_neg hn1] at hF
                        clear hn1 hz
                        by_cases c9 : 9007199254740992 ≤ sm
                        · rw [if_pos (.inl (by omega))] at hF
                          have HF := Lib.hid hF
                          have c9i : (9007199254740992 : Int) ≤ ((sm : Nat) : Int) := by omega
                          clear hF hF3 hexp hso hsle hsm c1 c2 hxc hEX hxsz hexl hn hpp hso2 hsle2 hse he2 hE2 c6 c9
                          go_wp2_with (first | (go_at_call 114; first | (with_reducible (refine (kr _).mono ?_); rintro _ _ ⟨rfl, hb⟩; replace hG := Lib.hid (grow_trans hG.out hb); clear hb) | (with_reducible (refine (kr2 _).mono ?_); rintro _ _ ⟨rfl, hb⟩; replace hG := Lib.hid (grow_trans hG.out hb); clear hb)))
                          go_ret2
                          exact ⟨by rw [HF.out]; rfl, hG.out⟩
                        have hdm : dval od = sm := by omega
                        have c9i : decide ((9007199254740992 : Int) ≤ ((sm : Nat) : Int)) = false := decide_eq_false (by omega)
                        by_cases c10 : 4000 < se
                        · rw [if_pos (.inr (by omega))] at hF
                          have HF := Lib.hid hF
                          have c10i : (4000 : Int) < ((se : Nat) : Int) := by omega
                          clear hF hF3 hexp hso hsle hsm c1 c2 hxc hEX hxsz hexl hn hpp hso2 hsle2 hse he2 hE2 c6 c9 c10 hdm
                          go_wp2_with (first | (go_at_call 114; first | (with_reducible (refine (kr _).mono ?_); rintro _ _ ⟨rfl, hb⟩; replace hG := Lib.hid (grow_trans hG.out hb); clear hb) | (with_reducible (refine (kr2 _).mono ?_); rintro _ _ ⟨rfl, hb⟩; replace hG := Lib.hid (grow_trans hG.out hb); clear hb)))
                          go_ret2
                          exact ⟨by rw [HF.out]; rfl, hG.out⟩
                        have hde : dval r = se := by omega
                        have c10i : ¬ (4000 : Int) < ((se : Nat) : Int) := by omega
                        rw [if_neg (by rintro (h | h) <;> omega)] at hF
                        rw [hde] at hexp
                        rw [hdm] at hF c2
                        have hw64 : IntKind.i64.wrap ((se : Nat) : Int) = ((se : Nat) : Int) := by
                          rw [IntKind.wrap_i64]
                          omega
                        rw [if_pos rfl] at hexp
                        have hwn2 : IntKind.i64.wrap (-((se : Nat) : Int)) = -((se : Nat) : Int) := by
                          rw [IntKind.wrap_i64]
                          omega
                        by_cases c11 : -((se : Nat) : Int) < -1074
                        · rw [hexp, if_pos (.inl c11)] at hF
                          have HF := Lib.hid hF
                          clear hF hF3 hexp hso hsle hsm c1 c2 hxc hEX hxsz hexl hn hpp hso2 hsle2 hse he2 hE2 c6 c9 c10 hdm hde
                          go_wp2_with (first | (go_at_call 114; first | (with_reducible (refine (kr _).mono ?_); rintro _ _ ⟨rfl, hb⟩; replace hG := Lib.hid (grow_trans hG.out hb); clear hb) | (with_reducible (refine (kr2 _).mono ?_); rintro _ _ ⟨rfl, hb⟩; replace hG := Lib.hid (grow_trans hG.out hb); clear hb)))
                          go_ret2
                          exact ⟨by rw [HF.out]; rfl, hG.out⟩
                        rw [hexp] at hF
                        have hnl := nearest_le sm (-((se : Nat) : Int))
                        obtain ⟨wf1, wf2, wf3⟩ := word_facts false hnl
                        have hsm0 : sm ≠ 0 := by omega
                        have kro := fun w => rounded_any false false (w := sm) (e := (-((se : Nat) : Int))) (by omega) (by omega) (by omega) w
                        rw [rnd_nearest false (-((se : Nat) : Int)) hsm0 (by omega)] at kro
                        have hwn : D.word false (D.nearest false sm (-((se : Nat) : Int))) = D.nearest false sm (-((se : Nat) : Int)) := by
                          obtain ⟨r, h1, h2⟩ := nearest_rung false sm (-((se : Nat) : Int))
                          rw [h2 false, word_f, word_f]
                        rw [← hwn] at kro
                        have hwv : wv sm = .agg #[.int .u64 0, .int .u64 ((sm : Nat) : Int)] := by
                          unfold wv
                          rw [Nat.div_eq_of_lt (by omega), Nat.mod_eq_of_lt (by omega)]
                          rfl
                        rw [hwv] at kro
                        have hwlt : D.word false (D.nearest false sm (-((se : Nat) : Int))) < 18446744073709551616 := by
                          have := word_sgn false (D.nearest false sm (-((se : Nat) : Int)))
                          have h2 : sgn false ≤ 9223372036854775808 := by decide
                          have h3 : infB = 9218868437227405312 := rfl
                          omega
                        have fA := andNot_sign (D.word false (D.nearest false sm (-((se : Nat) : Int)))) hwlt
                        have wf4 : D.word false (D.nearest false sm (-((se : Nat) : Int))) % 9223372036854775808 = D.nearest false sm (-((se : Nat) : Int)) := wf3
                        rw [wf4] at fA
                        obtain ⟨r, hr⟩ : ∃ x, x = D.nearest false sm (-((se : Nat) : Int)) := ⟨_, rfl⟩
                        rw [← hr] at hF kro fA
                        obtain ⟨wd, hwd⟩ : ∃ x, x = D.word false r := ⟨_, rfl⟩
                        rw [← hwd] at hF kro fA
                        rw [show ((sgn false : Nat) : Int) = 0 from rfl] at kro
                        clear wf1 wf2 wf3 wf4 hnl hwn hwv hwlt hr hwd
                        by_cases c12 : r = infB
                        · rw [if_pos (.inr c12)] at hF
                          rw [c12, show ((infB : Nat) : Int) = 9218868437227405312 from rfl] at fA
                          have HF := Lib.hid hF
                          clear hF hF3 hexp hso hsle hsm c1 c2 hxc hEX hxsz hexl hn hpp hso2 hsle2 hse he2 hE2 c6 c9 c10 hdm hde c12 hsm0
                          go_wp2_with (first | (go_at_call 114; first | (with_reducible (refine (kr _).mono ?_); rintro _ _ ⟨rfl, hb⟩; replace hG := Lib.hid (grow_trans hG.out hb); clear hb) | (with_reducible (refine (kr2 _).mono ?_); rintro _ _ ⟨rfl, hb⟩; replace hG := Lib.hid (grow_trans hG.out hb); clear hb)) | (go_at_call 115; with_reducible (refine (kro _).mono ?_); rintro _ _ ⟨rfl, hb⟩; replace hG := Lib.hid (grow_trans hG.out hb); clear hb))
                          go_ret2
                          exact ⟨by rw [HF.out]; rfl, hG.out⟩
                        · rw [if_neg (by rintro (h | h); exact c11 h; exact c12 h)] at hF
                          have h3 : infB = 9218868437227405312 := rfl
                          have hri : (((r : Nat) : Int) == 9218868437227405312) = false := beq_eq_false_iff_ne.2 fun h => c12 (by omega)
                          clear h3
                          have HF := Lib.hid hF
                          clear hF hF3 hexp hso hsle hsm c1 c2 hxc hEX hxsz hexl hn hpp hso2 hsle2 hse he2 hE2 c6 c9 c10 hdm hde c12 hsm0
                          go_wp2_with (first | (go_at_call 114; first | (with_reducible (refine (kr _).mono ?_); rintro _ _ ⟨rfl, hb⟩; replace hG := Lib.hid (grow_trans hG.out hb); clear hb) | (with_reducible (refine (kr2 _).mono ?_); rintro _ _ ⟨rfl, hb⟩; replace hG := Lib.hid (grow_trans hG.out hb); clear hb)) | (go_at_call 115; with_reducible (refine (kro _).mono ?_); rintro _ _ ⟨rfl, hb⟩; replace hG := Lib.hid (grow_trans hG.out hb); clear hb))
                          go_ret2
                          exact ⟨by rw [HF.out]; rfl, hG.out⟩
                  · have hpp : Lib.hasPrefix ex [45] = false ∧ Lib.trimPrefix ex [45] = ex := by
                      rw [hxc]
                      exact strip_other c5
                    have hc5 : (((c0.toNat : Nat) : Int) == 45) = false := beq_eq_false_iff_ne.2 fun h => c5 (UInt8.toNat_inj.1 (by show c0.toNat = 45; omega))
                    obtain ⟨ci, hci⟩ : ∃ z : Int, z = ((c0.toNat : Nat) : Int) := ⟨_, rfl⟩
                    rw [← hci] at hc5 hix0
                    have hrl : ex.length < 1073741824 := hexl
                    clear hci
                    have hF3 : fparse.fparse2 false od ex = if canonB od = false ∨ dval od % 2 = 0 ∨ canonB (Lib.trimPrefix ex [45]) = false ∨ (Lib.hasPrefix ex [45] = true ∧ Lib.trimPrefix ex [45] = [48]) then (0, 10) else if 9007199254740992 ≤ dval od ∨ 4000 < dval (Lib.trimPrefix ex [45]) then (0, 11) else if expOf ex < -1074 ∨ D.nearest false (dval od) (expOf ex) = infB then (0, 11) else (D.word false (D.nearest false (dval od) (expOf ex)), 0) := rfl
                    have hexp : expOf ex = if Lib.hasPrefix ex [45] = true then -((dval (Lib.trimPrefix ex [45]) : Nat) : Int) else ((dval (Lib.trimPrefix ex [45]) : Nat) : Int) := rfl
                    rw [hpp.1, hpp.2] at hF3 hexp
                    rw [hF3] at hF
                    have kr2 := fun w => run_any hrl w
                    have hso2 := sat_or (ex.take (lead ex))
                    have hsle2 := sat_le (ex.take (lead ex))
                    obtain ⟨E2, hE2⟩ : ∃ x, x = strOf ex := ⟨_, rfl⟩
                    have he2 : E2.size = ex.length := by rw [hE2, ba_size]
                    rw [← hE2] at kr2
                    obtain ⟨se, hse⟩ : ∃ x, x = sat (ex.take (lead ex)) := ⟨_, rfl⟩
                    rw [← hse] at kr2 hso2 hsle2
                    have hEE : EX = E2 := by rw [hEX, hE2]
                    rw [hEE] at hsl2 hix0 hxp
                    cases c6 : canonB (ex.take (lead ex)) with
                    | false =>
                      rw [c6] at kr2
                      rw [if_pos (.inr (.inr (.inl (canon_lead_no (.inl c6)))))] at hF
                      have HF := Lib.hid hF
                      clear hF hF3 hexp hso hsle hsm c1 c2 hxc hEX hxsz hexl hn hpp hso2 hsle2 hse he2 hE2 c6
                      go_wp2_with (first | (go_at_call 114; first | (with_reducible (refine (kr _).mono ?_); rintro _ _ ⟨rfl, hb⟩; replace hG := Lib.hid (grow_trans hG.out hb); clear hb) | (with_reducible (refine (kr2 _).mono ?_); rintro _ _ ⟨rfl, hb⟩; replace hG := Lib.hid (grow_trans hG.out hb); clear hb)))
                      go_ret2
                      exact ⟨by rw [HF.out]; rfl, hG.out⟩
                    | true =>
                      rw [c6] at kr2
                      by_cases c7 : lead ex < ex.length
                      · rw [if_pos (.inr (.inr (.inl (canon_lead_no (.inr c7)))))] at hF
                        have HF := Lib.hid hF
                        have c7i : ((lead ex : Nat) : Int) < ((E2.size : Nat) : Int) := by omega
                        obtain ⟨n2, hn2⟩ : ∃ x, x = lead ex := ⟨_, rfl⟩
                        rw [← hn2] at kr2 c7i
                        clear hF hF3 hexp hso hsle hsm c1 c2 hxc hEX hxsz hexl hn hpp hso2 hsle2 hse he2 hE2 c6 c7 hn2
                        go_wp2_with (first | (go_at_call 114; first | (with_reducible (refine (kr _).mono ?_); rintro _ _ ⟨rfl, hb⟩; replace hG := Lib.hid (grow_trans hG.out hb); clear hb) | (with_reducible (refine (kr2 _).mono ?_); rintro _ _ ⟨rfl, hb⟩; replace hG := Lib.hid (grow_trans hG.out hb); clear hb)))
                        go_ret2
                        exact ⟨by rw [HF.out]; rfl, hG.out⟩
                      · have hle2 := lead_le ex
                        have hlen : lead ex = ex.length := by omega
                        rw [hlen, List.take_length] at c6 hso2 hse
                        have c7i : ¬ ((lead ex : Nat) : Int) < ((E2.size : Nat) : Int) := by omega
                        obtain ⟨n2, hn2⟩ : ∃ x, x = lead ex := ⟨_, rfl⟩
                        rw [← hn2] at kr2 c7i
                        have hz := canon_sat_zero c6
                        rw [← hse] at hz
                        clear c7 hle2 hlen hn2
                        have hn1 : ¬ (canonB od = false ∨ dval od % 2 = 0 ∨ canonB ex = false ∨ (false = true ∧ ex = [48])) := by
                          rintro (h | h | h | h)
                          · rw [c1] at h
                            cases h
                          · exact c2 h
                          · rw [c6] at h
                            cases h
                          · exact absurd h.1 (by decide)
                        rw [if_neg hn1] at hF
                        clear hn1 hz
                        by_cases c9 : 9007199254740992 ≤ sm
                        · rw [if_pos (.inl (by omega))] at hF
                          have HF := Lib.hid hF
                          have c9i : (9007199254740992 : Int) ≤ ((sm : Nat) : Int) := by omega
                          clear hF hF3 hexp hso hsle hsm c1 c2 hxc hEX hxsz hexl hn hpp hso2 hsle2 hse he2 hE2 c6 c9
                          go_wp2_with (first | (go_at_call 114; first | (with_reducible (refine (kr _).mono ?_); rintro _ _ ⟨rfl, hb⟩; replace hG := Lib.hid (grow_trans hG.out hb); clear hb) | (with_reducible (refine (kr2 _).mono ?_); rintro _ _ ⟨rfl, hb⟩; replace hG := Lib.hid (grow_trans hG.out hb); clear hb)))
                          go_ret2
                          exact ⟨by rw [HF.out]; rfl, hG.out⟩
                        have hdm : dval od = sm := by omega
                        have c9i : decide ((9007199254740992 : Int) ≤ ((sm : Nat) : Int)) = false := decide_eq_false (by omega)
                        by_cases c10 : 4000 < se
                        · rw [if_pos (.inr (by omega))] at hF
                          have HF := Lib.hid hF
                          have c10i : (4000 : Int) < ((se : Nat) : Int) := by omega
                          clear hF hF3 hexp hso hsle hsm c1 c2 hxc hEX hxsz hexl hn hpp hso2 hsle2 hse he2 hE2 c6 c9 c10 hdm
                          go_wp2_with (first | (go_at_call 114; first | (with_reducible (refine (kr _).mono ?_); rintro _ _ ⟨rfl, hb⟩; replace hG := Lib.hid (grow_trans hG.out hb); clear hb) | (with_reducible (refine (kr2 _).mono ?_); rintro _ _ ⟨rfl, hb⟩; replace hG := Lib.hid (grow_trans hG.out hb); clear hb)))
                          go_ret2
                          exact ⟨by rw [HF.out]; rfl, hG.out⟩
                        have hde : dval ex = se := by omega
                        have c10i : ¬ (4000 : Int) < ((se : Nat) : Int) := by omega
                        rw [if_neg (by rintro (h | h) <;> omega)] at hF
                        rw [hde] at hexp
                        rw [hdm] at hF c2
                        have hw64 : IntKind.i64.wrap ((se : Nat) : Int) = ((se : Nat) : Int) := by
                          rw [IntKind.wrap_i64]
                          omega
                        rw [if_neg (by decide)] at hexp
                        have c11 : ¬ ((se : Nat) : Int) < -1074 := by omega
                        rw [hexp] at hF
                        have hnl := nearest_le sm ((se : Nat) : Int)
                        obtain ⟨wf1, wf2, wf3⟩ := word_facts false hnl
                        have hsm0 : sm ≠ 0 := by omega
                        have kro := fun w => rounded_any false false (w := sm) (e := ((se : Nat) : Int)) (by omega) (by omega) (by omega) w
                        rw [rnd_nearest false ((se : Nat) : Int) hsm0 (by omega)] at kro
                        have hwn : D.word false (D.nearest false sm ((se : Nat) : Int)) = D.nearest false sm ((se : Nat) : Int) := by
                          obtain ⟨r, h1, h2⟩ := nearest_rung false sm ((se : Nat) : Int)
                          rw [h2 false, word_f, word_f]
                        rw [← hwn] at kro
                        have hwv : wv sm = .agg #[.int .u64 0, .int .u64 ((sm : Nat) : Int)] := by
                          unfold wv
                          rw [Nat.div_eq_of_lt (by omega), Nat.mod_eq_of_lt (by omega)]
                          rfl
                        rw [hwv] at kro
                        have hwlt : D.word false (D.nearest false sm ((se : Nat) : Int)) < 18446744073709551616 := by
                          have := word_sgn false (D.nearest false sm ((se : Nat) : Int))
                          have h2 : sgn false ≤ 9223372036854775808 := by decide
                          have h3 : infB = 9218868437227405312 := rfl
                          omega
                        have fA := andNot_sign (D.word false (D.nearest false sm ((se : Nat) : Int))) hwlt
                        have wf4 : D.word false (D.nearest false sm ((se : Nat) : Int)) % 9223372036854775808 = D.nearest false sm ((se : Nat) : Int) := wf3
                        rw [wf4] at fA
                        obtain ⟨r, hr⟩ : ∃ x, x = D.nearest false sm ((se : Nat) : Int) := ⟨_, rfl⟩
                        rw [← hr] at hF kro fA
                        obtain ⟨wd, hwd⟩ : ∃ x, x = D.word false r := ⟨_, rfl⟩
                        rw [← hwd] at hF kro fA
                        rw [show ((sgn false : Nat) : Int) = 0 from rfl] at kro
                        clear wf1 wf2 wf3 wf4 hnl hwn hwv hwlt hr hwd
                        by_cases c12 : r = infB
                        · rw [if_pos (.inr c12)] at hF
                          rw [c12, show ((infB : Nat) : Int) = 9218868437227405312 from rfl] at fA
                          have HF := Lib.hid hF
                          clear hF hF3 hexp hso hsle hsm c1 c2 hxc hEX hxsz hexl hn hpp hso2 hsle2 hse he2 hE2 c6 c9 c10 hdm hde c12 hsm0
                          go_wp2_with (first | (go_at_call 114; first | (with_reducible (refine (kr _).mono ?_); rintro _ _ ⟨rfl, hb⟩; replace hG := Lib.hid (grow_trans hG.out hb); clear hb) | (with_reducible (refine (kr2 _).mono ?_); rintro _ _ ⟨rfl, hb⟩; replace hG := Lib.hid (grow_trans hG.out hb); clear hb)) | (go_at_call 115; with_reducible (refine (kro _).mono ?_); rintro _ _ ⟨rfl, hb⟩; replace hG := Lib.hid (grow_trans hG.out hb); clear hb))
                          go_ret2
                          exact ⟨by rw [HF.out]; rfl, hG.out⟩
                        · rw [if_neg (by rintro (h | h); exact c11 h; exact c12 h)] at hF
                          have h3 : infB = 9218868437227405312 := rfl
                          have hri : (((r : Nat) : Int) == 9218868437227405312) = false := beq_eq_false_iff_ne.2 fun h => c12 (by omega)
                          clear h3
                          have HF := Lib.hid hF
                          clear hF hF3 hexp hso hsle hsm c1 c2 hxc hEX hxsz hexl hn hpp hso2 hsle2 hse he2 hE2 c6 c9 c10 hdm hde c12 hsm0
                          go_wp2_with (first | (go_at_call 114; first | (with_reducible (refine (kr _).mono ?_); rintro _ _ ⟨rfl, hb⟩; replace hG := Lib.hid (grow_trans hG.out hb); clear hb) | (with_reducible (refine (kr2 _).mono ?_); rintro _ _ ⟨rfl, hb⟩; replace hG := Lib.hid (grow_trans hG.out hb); clear hb)) | (go_at_call 115; with_reducible (refine (kro _).mono ?_); rintro _ _ ⟨rfl, hb⟩; replace hG := Lib.hid (grow_trans hG.out hb); clear hb))
                          go_ret2
                          exact ⟨by rw [HF.out]; rfl, hG.out⟩
              · rw [tail_bad (.inr (.inr fun _ => c4))] at hF
                have HF := Lib.hid hF
                have kr2 := kr
                have hp1 : ((((t[lead t]'c3).toNat : Nat) : Int) != 112) = true := bne_iff_ne.2 fun h => c4 (UInt8.toNat_inj.1 (by show (t[lead t]'c3).toNat = 112; omega))
                obtain ⟨pi, hpi⟩ : ∃ z : Int, z = (((t[lead t]'c3).toNat : Nat) : Int) := ⟨_, rfl⟩
                rw [← hpi] at hixp hp1
                clear hF c1 c2 c4 hTS hpi
                go_wp2_with (first | (go_at_call 114; first | (with_reducible (refine (kr _).mono ?_); rintro _ _ ⟨rfl, hb⟩; replace hG := Lib.hid (grow_trans hG.out hb); clear hb) | (with_reducible (refine (kr2 _).mono ?_); rintro _ _ ⟨rfl, hb⟩; replace hG := Lib.hid (grow_trans hG.out hb); clear hb)))
                go_ret2
                exact ⟨by rw [HF.out]; rfl, hG.out⟩
            · rw [tail_bad (.inr (.inr fun k => absurd k c3))] at hF
              have HF := Lib.hid hF
              have kr2 := kr
              have hnl : lead t = t.length := by omega
              rw [hnl] at kr2 hixn hwm
              clear hF c1 c2 hTS hnl kr
              have kr := kr2
              go_wp2_with (first | (go_at_call 114; first | (with_reducible (refine (kr _).mono ?_); rintro _ _ ⟨rfl, hb⟩; replace hG := Lib.hid (grow_trans hG.out hb); clear hb) | (with_reducible (refine (kr2 _).mono ?_); rintro _ _ ⟨rfl, hb⟩; replace hG := Lib.hid (grow_trans hG.out hb); clear hb)))
              go_ret2
              exact ⟨by rw [HF.out]; rfl, hG.out⟩
end Go.Proofs.YtiidkgdlngcpgaaGreatDoor
