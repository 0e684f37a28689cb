/- fparse in the document's order: what is read behind the sign, and behind the 'p' (plain). -/
import Derived.Test.YtjlnbfpjlladoaaGreatDoorJd
set_option maxRecDepth 100000
namespace Go.Proofs.YtjlnbfpjlladoaaGreatDoor
open Ieee

def tailV (sg : Bool) (t : List UInt8) : Nat × Int := if Lib.indexByte t 112 < 0 then (0, 10) else fparse.fparse2 sg (t.take (Lib.indexByte t 112).toNat) (t.drop ((Lib.indexByte t 112).toNat + 1))
theorem fparse_tail {l : List UInt8} (h0 : l ≠ [110, 97, 110]) (h1 : l ≠ [105, 110, 102]) (h2 : l ≠ [45, 105, 110, 102]) (h3 : l ≠ [48]) (h4 : l ≠ [45, 48]) : fparse l = tailV (Lib.hasPrefix l [45]) (Lib.trimPrefix l [45]) := by
  unfold fparse tailV
  rw [if_neg h0, if_neg h1, if_neg h2, if_neg h3, if_neg h4]
theorem strip_other {c : UInt8} {l : List UInt8} (h : c ≠ 45) : Lib.hasPrefix (c :: l) [45] = false ∧ Lib.trimPrefix (c :: l) [45] = c :: l := by
  have h1 : Lib.hasPrefix (c :: l) [45] = false := by
    unfold Lib.hasPrefix
    simp [List.isPrefixOf]
    exact fun e => h e.symm
  refine ⟨h1, ?_⟩
  unfold Lib.trimPrefix
  rw [h1]
  rfl
theorem tail_bad {sg : Bool} {t : List UInt8} (h : canonB (t.take (lead t)) = false ∨ dval (t.take (lead t)) % 2 = 0 ∨ ∀ k : lead t < t.length, t[lead t]'k ≠ 112) : tailV sg t = (0, 10) := by
  unfold tailV
  rcases index_split t 112 with ⟨i1, _⟩ | ⟨i, i1, i2, i3, _⟩
  · rw [if_pos (by omega)]
  · rw [if_neg (by omega), i1, Int.toNat_natCast]
    unfold fparse.fparse2
    by_cases c : canonB (t.take i) = false
    · rw [if_pos (.inl c)]
    · rw [Bool.not_eq_false] at c
      obtain ⟨k1, k2⟩ := head_no i1 i2 i3 (canon_digs c).1
      rw [k1] at h
      rcases h with h | h | h
      · rw [c] at h
        cases h
      · rw [if_pos (.inr (.inl h))]
      · exact absurd k2 (h i2)
theorem tail_good {sg : Bool} {t : List UInt8} (h : lead t < t.length) (hp : t[lead t]'h = 112) : tailV sg t = fparse.fparse2 sg (t.take (lead t)) (t.drop (lead t + 1)) := by
  unfold tailV
  rw [head_ok h hp, if_neg (by omega), Int.toNat_natCast]
theorem lead_canon {e : List UInt8} (h : canonB e = true) : lead e = e.length := lead_is e e.length (Nat.le_refl _) (by rw [List.take_length]; exact (canon_digs h).1) fun k => absurd k (Nat.lt_irrefl _)
theorem canon_lead_no {e : List UInt8} (h : canonB (e.take (lead e)) = false ∨ lead e < e.length) : canonB e = false := by
  cases c : canonB e with
  | false => rfl
  | true =>
    have h1 := lead_canon c
    rw [h1, List.take_length, c] at h
    rcases h with h | h
    · cases h
    · omega
theorem canon_sat_zero {e : List UInt8} (h : canonB e = true) : sat e = 0 ↔ e = [48] := by
  constructor
  · intro h0
    by_cases c : e = [48]
    · exact c
    · have := canon_pos h c
      rcases sat_or e with k | ⟨k, _⟩ <;> omega
  · intro c
    rw [c]
    rfl
theorem words_parse (a : Nat) (h : a < 2 * signB) (hc : fcan a = a) {l : List UInt8} (hl : ftext a = l) : fparse l = (a, 0) := by
  rw [← hl, fparse_text h, hc]
def word5 : Nat → Nat
  | 0 => 9221120237041090561
  | 1 => 9218868437227405312
  | 2 => 18442240474082181120
  | 3 => 0
  | _ => 9223372036854775808
theorem word5_ok {i : Nat} (h : i < 5) : word5 i < 2 * signB ∧ fcan (word5 i) = word5 i := by
  rcases (show i = 0 ∨ i = 1 ∨ i = 2 ∨ i = 3 ∨ i = 4 by omega) with rfl | rfl | rfl | rfl | rfl <;> decide
theorem word5_none {l : List UInt8} (h : ∀ k, k < 5 → ftext (word5 k) ≠ l) : fparse l = tailV (Lib.hasPrefix l [45]) (Lib.trimPrefix l [45]) := by
  have f0 : ftext (word5 0) = [110, 97, 110] := by decide
  have f1 : ftext (word5 1) = [105, 110, 102] := by decide
  have f2 : ftext (word5 2) = [45, 105, 110, 102] := by decide
  have f3 : ftext (word5 3) = [48] := by decide
  have f4 : ftext (word5 4) = [45, 48] := by decide
  have g0 := h 0 (by decide)
  have g1 := h 1 (by decide)
  have g2 := h 2 (by decide)
  have g3 := h 3 (by decide)
  have g4 := h 4 (by decide)
  rw [f0] at g0
  rw [f1] at g1
  rw [f2] at g2
  rw [f3] at g3
  rw [f4] at g4
  exact fparse_tail g0.symm g1.symm g2.symm g3.symm g4.symm
theorem last_of {l : List UInt8} (h : canonB l = true) : ∃ m c, l = m ++ [c] ∧ isDig c = true ∧ (dval l % 2 = c.toNat % 2) := by
  rcases List.eq_nil_or_concat l with e | ⟨m, c, e⟩
  · exact absurd e (canon_digs h).2
  · rw [List.concat_eq_append] at e
    subst e
    have hd := (canon_digs h).1
    rw [List.all_append, Bool.and_eq_true] at hd
    have hcd : isDig c = true := by simpa using hd.2
    have hr := dig_range hcd
    refine ⟨m, c, rfl, hcd, ?_⟩
    rw [dval_snoc]
    omega
theorem lead_last {t : List UInt8} (h : canonB (t.take (lead t)) = true) : ∃ (k : 0 < lead t) (hk : lead t - 1 < t.length), 48 ≤ (t[lead t - 1]'hk).toNat ∧ (t[lead t - 1]'hk).toNat ≤ 57 ∧ dval (t.take (lead t)) % 2 = (t[lead t - 1]'hk).toNat % 2 := by
  obtain ⟨m, c, h1, h2, h3⟩ := last_of h
  have hle := lead_le t
  have hlen : (t.take (lead t)).length = lead t := by
    rw [List.length_take]
    omega
  have hml : m.length + 1 = lead t := by
    rw [← hlen, h1]
    simp
  have hk : lead t - 1 < t.length := by omega
  have hc : t[lead t - 1]'hk = c := by
    have e1 : (t.take (lead t))[lead t - 1]? = some c := by
      rw [h1, show lead t - 1 = m.length by omega]
      simp
    rw [List.getElem?_take, if_pos (by omega), List.getElem?_eq_getElem hk] at e1
    exact Option.some.inj e1
  refine ⟨by omega, hk, ?_⟩
  rw [hc]
  have hr := dig_range h2
  exact ⟨hr.1, hr.2, h3⟩
end Go.Proofs.YtjlnbfpjlladoaaGreatDoor
