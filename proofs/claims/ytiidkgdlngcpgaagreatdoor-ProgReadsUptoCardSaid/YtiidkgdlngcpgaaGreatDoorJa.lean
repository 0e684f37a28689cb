/- Texts of numbers, plain: digits and their value; which text is a number's. -/
import Derived.Test.YtiidkgdlngcpgaaGreatDoorFl
import Derived.Test.YtiidkgdlngcpgaaGreatDoorNumDigits
import Derived.Lib.AtoiAll
import Derived.Lib.ParseIntB
import Derived.Lib.Bytealg
set_option maxRecDepth 100000
namespace Go.Proofs.YtiidkgdlngcpgaaGreatDoor
open Go.RowKit Ieee

def dvalFrom (a : Nat) (l : List UInt8) : Nat := l.foldl (fun a c => 10 * a + (c.toNat - 48)) a
def dval (l : List UInt8) : Nat := dvalFrom 0 l
theorem dvalFrom_cons (a : Nat) (c : UInt8) (l : List UInt8) : dvalFrom a (c :: l) = dvalFrom (10 * a + (c.toNat - 48)) l := by
  unfold dvalFrom
  rw [List.foldl_cons]
theorem dvalFrom_app (a : Nat) (l m : List UInt8) : dvalFrom a (l ++ m) = dvalFrom (dvalFrom a l) m := List.foldl_append ..
theorem dvalFrom_nil (a : Nat) : dvalFrom a [] = a := by
  unfold dvalFrom
  rw [List.foldl_nil]
theorem dval_snoc (l : List UInt8) (c : UInt8) : dval (l ++ [c]) = 10 * dval l + (c.toNat - 48) := by
  unfold dval
  rw [dvalFrom_app, dvalFrom_cons, dvalFrom_nil]
theorem dvalFrom_ge : ∀ (l : List UInt8) (a : Nat), a ≤ dvalFrom a l
  | [], a => Nat.le_refl _
  | c :: l, a => Nat.le_trans (by omega) (dvalFrom_ge l (10 * a + (c.toNat - 48)))
theorem dig_range {c : UInt8} (h : isDig c = true) : 48 ≤ c.toNat ∧ c.toNat ≤ 57 := by
  unfold isDig at h
  rw [Bool.and_eq_true] at h
  exact ⟨of_decide_eq_true h.1, of_decide_eq_true h.2⟩

theorem parseUintM_dig {M : Nat} (hM : M < 18446744073709551616) : ∀ (l : List UInt8) (acc : Nat), l.all isDig = true → acc ≤ M → Lib.parseUintM M acc l = if dvalFrom acc l ≤ M then .ok (dvalFrom acc l) else .range
  | [], acc, _, ha => by
    rw [Lib.parseUintM, if_pos (show dvalFrom acc [] ≤ M from ha)]
    rfl
  | c :: l, acc, hd, ha => by
    rw [List.all_cons, Bool.and_eq_true] at hd
    obtain ⟨h1, h2⟩ := dig_range hd.1
    rw [Lib.parseUintM, if_pos ⟨h1, h2⟩, dvalFrom_cons]
    have hge := dvalFrom_ge l (10 * acc + (c.toNat - 48))
    by_cases k1 : 1844674407370955162 ≤ acc
    · rw [if_pos k1, if_neg (by omega)]
    · rw [if_neg k1]
      by_cases k2 : M < acc * 10 + (c.toNat - 48)
      · rw [if_pos k2, if_neg (by omega)]
      · rw [if_neg k2, Nat.mul_comm acc 10]
        exact parseUintM_dig hM l _ hd.2 (by omega)
theorem parseUint10_dig : ∀ (l : List UInt8) (acc : Nat), l.all isDig = true → acc < 18446744073709551616 → Lib.parseUint10 acc l = if dvalFrom acc l < 18446744073709551616 then .ok (dvalFrom acc l) else .range
  | [], acc, _, ha => by
    rw [Lib.parseUint10, if_pos (show dvalFrom acc [] < _ from ha)]
    rfl
  | c :: l, acc, hd, ha => by
    rw [List.all_cons, Bool.and_eq_true] at hd
    obtain ⟨h1, h2⟩ := dig_range hd.1
    rw [Lib.parseUint10, if_pos ⟨h1, h2⟩, dvalFrom_cons]
    have hge := dvalFrom_ge l (10 * acc + (c.toNat - 48))
    by_cases k1 : 1844674407370955162 ≤ acc
    · rw [if_pos k1, if_neg (by omega)]
    · rw [if_neg k1]
      by_cases k2 : 18446744073709551616 ≤ acc * 10 + (c.toNat - 48)
      · rw [if_pos k2, if_neg (by omega)]
      · rw [if_neg k2, Nat.mul_comm acc 10]
        exact parseUint10_dig l _ hd.2 (by omega)

/-- a numeral without noughts ahead -/
def canonB (l : List UInt8) : Bool := l.all isDig && (decide (l = [48]) || (decide (l ≠ []) && decide ((l.getD 0 0).toNat ≠ 48)))
theorem digitsB_is (s : ByteArray) : digitsB s = canonB s.data.toList := by
  unfold digitsB canonB
  have h1 : decide (s = ⟨#[48]⟩) = decide (s.data.toList = [48]) := decide_eq_decide.2 ⟨fun h => by rw [h], fun h => by
    apply ByteArray.ext
    rw [← Array.toArray_toList (xs := s.data), h]⟩
  have h2 : decide (s.size ≠ 0) = decide (s.data.toList ≠ []) := decide_eq_decide.2 (by
    have : s.data.toList.length = s.size := Array.length_toList
    constructor
    · intro h e
      rw [e] at this
      exact h this.symm
    · intro h e
      rw [e] at this
      exact h (List.length_eq_zero_iff.1 this))
  rw [h1, h2]
theorem canon_digs {l : List UInt8} (h : canonB l = true) : l.all isDig = true ∧ l ≠ [] := by
  unfold canonB at h
  rw [Bool.and_eq_true] at h
  refine ⟨h.1, fun e => ?_⟩
  rw [e] at h
  exact absurd h.2 (by decide)
theorem dval_pos : ∀ (l : List UInt8) (a : Nat), 0 < a → 0 < dvalFrom a l := fun l a h => Nat.lt_of_lt_of_le h (dvalFrom_ge l a)
theorem canon_pos {l : List UInt8} (h : canonB l = true) (h0 : l ≠ [48]) : 0 < dval l := by
  unfold canonB at h
  rw [Bool.and_eq_true, Bool.or_eq_true] at h
  rcases h.2 with k | k
  · exact absurd (of_decide_eq_true k) h0
  · rw [Bool.and_eq_true] at k
    cases l with
    | nil => exact absurd rfl (of_decide_eq_true k.1)
    | cons c l =>
      have hc := of_decide_eq_true k.2
      have hd := h.1
      rw [List.all_cons, Bool.and_eq_true] at hd
      have := dig_range hd.1
      have hc2 : c.toNat ≠ 48 := by
        rw [List.getD_cons_zero] at hc
        exact hc
      unfold dval
      rw [dvalFrom_cons]
      exact dval_pos l _ (by omega)
theorem decDigits_snoc {n : Nat} (h : 10 ≤ n) : Lib.decDigits n = Lib.decDigits (n / 10) ++ [UInt8.ofNat (48 + n % 10)] := by
  rw [Lib.decDigits, dif_neg (by omega)]
theorem byte_back {c : UInt8} (h : isDig c = true) : UInt8.ofNat (48 + (c.toNat - 48)) = c := by
  have := dig_range h
  rw [show 48 + (c.toNat - 48) = c.toNat by omega, UInt8.ofNat_toNat]
theorem canon_init {l : List UInt8} {c : UInt8} (h : canonB (l ++ [c]) = true) (hl : l ≠ []) : canonB l = true ∧ l ≠ [48] := by
  unfold canonB at h ⊢
  rw [Bool.and_eq_true, List.all_append, Bool.and_eq_true, Bool.or_eq_true] at h
  cases l with
  | nil => exact absurd rfl hl
  | cons a l =>
    rcases h.2 with k | k
    · have k1 := of_decide_eq_true k
      rw [List.cons_append] at k1
      injection k1 with _ k2
      cases l <;> cases k2
    · rw [Bool.and_eq_true] at k
      have k2 := of_decide_eq_true k.2
      have k3 : a.toNat ≠ 48 := k2
      refine ⟨?_, fun e => ?_⟩
      · rw [h.1.1, Bool.true_and, Bool.or_eq_true, Bool.and_eq_true]
        exact .inr ⟨decide_eq_true (by simp), decide_eq_true k3⟩
      · injection e with e1 _
        exact k3 (by rw [e1]; rfl)
theorem canon_back : ∀ (n : Nat) (l : List UInt8), l.length ≤ n → canonB l = true → Lib.decDigits (dval l) = l
  | 0, l, h, hc => absurd (List.length_eq_zero_iff.1 (Nat.le_zero.1 h)) (canon_digs hc).2
  | n + 1, l, h, hc => by
    rcases List.eq_nil_or_concat l with e | ⟨m, c, e⟩
    · exact absurd e (canon_digs hc).2
    · rw [List.concat_eq_append] at e
      subst e
      have hd := (canon_digs hc).1
      rw [List.all_append, Bool.and_eq_true] at hd
      have hcd : isDig c = true := by simpa using hd.2
      have hr := dig_range hcd
      rw [dval_snoc]
      by_cases hm : m = []
      · subst hm
        rw [show dval ([] : List UInt8) = 0 from rfl, Nat.mul_zero, Nat.zero_add, Lib.decDigits, dif_pos (by omega), byte_back hcd]
        rfl
      · obtain ⟨h1, h2⟩ := canon_init hc hm
        have hp := canon_pos h1 h2
        rw [decDigits_snoc (by omega), show (10 * dval m + (c.toNat - 48)) / 10 = dval m by omega, show (10 * dval m + (c.toNat - 48)) % 10 = c.toNat - 48 by omega, byte_back hcd]
        rw [List.length_append] at h
        rw [canon_back n m (by simpa using h) h1]
theorem digit_of {d : Nat} (h : d < 10) : (UInt8.ofNat (48 + d)).toNat = 48 + d ∧ isDig (UInt8.ofNat (48 + d)) = true := by
  have h1 : (UInt8.ofNat (48 + d)).toNat = 48 + d := by
    rw [UInt8.toNat_ofNat']
    omega
  refine ⟨h1, ?_⟩
  unfold isDig
  rw [h1, decide_eq_true (by omega), decide_eq_true (by omega)]
  rfl
theorem decDigits_val : ∀ (n : Nat), dval (Lib.decDigits n) = n ∧ (Lib.decDigits n).all isDig = true := fun n => by
  induction n using Nat.strongRecOn with
  | _ n ih =>
    by_cases c : n < 10
    · obtain ⟨h1, h2⟩ := digit_of c
      rw [Lib.decDigits, dif_pos c]
      refine ⟨?_, by rw [List.all_cons, h2]; rfl⟩
      unfold dval
      rw [dvalFrom_cons, dvalFrom_nil, h1]
      omega
    · obtain ⟨i1, i2⟩ := ih (n / 10) (by omega)
      obtain ⟨h1, h2⟩ := digit_of (show n % 10 < 10 by omega)
      rw [decDigits_snoc (by omega)]
      refine ⟨?_, by rw [List.all_append, i2, Bool.true_and, List.all_cons, h2]; rfl⟩
      rw [dval_snoc, i1, h1]
      omega

/-! ### amounts: which are exact -/
theorem nearest_inf {m : Nat} {n : Int} (h0 : m ≠ 0) (h53 : m < 9007199254740992) (h : 971 < n + (m.log2 : Int) - 52) : D.nearest false m n = infB := by
  rw [← rnd_nearest false n h0 (Nat.lt_trans h53 (by decide))]
  unfold rnd rndR
  have hb : bitLen m = m.log2 + 1 := bitLen_pos h0
  have hq : rndQ m n = n + (m.log2 : Int) - 52 := by
    unfold rndQ
    rw [hb, if_neg (by omega)]
    omega
  have hl : m.log2 ≤ 52 := by
    have := (Nat.log2_lt (k := 53) h0).2 (show m < 2 ^ 53 from h53)
    omega
  rw [hq, word_f, if_neg (by omega)]
  simp only
  rw [if_pos h]
theorem nearest_exact {m : Nat} {n : Int} (ho : m % 2 = 1) (h53 : m < 9007199254740992) (hn : -1074 ≤ n) (h : n + (m.log2 : Int) - 52 ≤ 971) :
    ∃ r, D.nearest false m n = r ∧ r < infB ∧ r ≠ 0 ∧ oddM r = m ∧ oddE r = n := by
  have h0 : m ≠ 0 := by omega
  have hl : m.log2 ≤ 52 := by
    have := (Nat.log2_lt (k := 53) h0).2 (show m < 2 ^ 53 from h53)
    omega
  have h1 := log_le m h0
  have h2 : m < 2 ^ (m.log2 + 1) := Nat.lt_log2_self
  obtain ⟨L, hL⟩ : ∃ L, L = m.log2 := ⟨_, rfl⟩
  rw [← hL] at hl h1 h2 h
  -- r with the amount m 2^d at the exponent n - d
  have key : ∀ (r d : Nat), r < infB → takenM r = m * 2 ^ d → takenE r + (d : Int) = n → ∃ r, D.nearest false m n = r ∧ r < infB ∧ r ≠ 0 ∧ oddM r = m ∧ oddE r = n := fun r d hr hM hE => by
    have hr0 : r ≠ 0 := fun e => by
      rw [e] at hM
      have : 0 < m * 2 ^ d := Nat.mul_pos (by omega) (Nat.pow_pos (by decide))
      have h00 : takenM 0 = 0 := rfl
      omega
    obtain ⟨q1, q2, _⟩ := odd_split hr0
    obtain ⟨u1, u2⟩ := odd_unique _ _ (q1.symm.trans hM) q2 ho
    refine ⟨r, ?_, hr, hr0, u1, ?_⟩
    · rw [← nearest_scale false (d := d) (f := takenE r) (by omega) (by omega), ← hM, nearest_taken false hr, word_f]
    · unfold oddE
      rw [u2]
      exact hE
  by_cases c : -1074 ≤ n - 52 + (L : Int)
  · have e1 : 2 ^ L * 2 ^ (52 - L) = 4503599627370496 := by
      rw [← Nat.pow_add, show L + (52 - L) = 52 by omega]
    have e2 : 2 ^ (L + 1) * 2 ^ (52 - L) = 9007199254740992 := by
      rw [← Nat.pow_add, show L + 1 + (52 - L) = 53 by omega]
    have h3 := Nat.mul_le_mul_right (2 ^ (52 - L)) h1
    have h4 := Nat.mul_lt_mul_of_pos_right h2 (show 0 < 2 ^ (52 - L) from Nat.pow_pos (by decide))
    obtain ⟨M, hM⟩ : ∃ M, M = m * 2 ^ (52 - L) := ⟨_, rfl⟩
    rw [← hM] at h3 h4
    obtain ⟨r, hr⟩ : ∃ r, r = (n + (L : Int) + 1022).toNat * 4503599627370496 + M := ⟨_, rfl⟩
    obtain ⟨d1, d2, d3, d4⟩ := mant_big (r := r) (by omega)
    refine key r (52 - L) (by unfold infB; omega) (by rw [d4, ← hM]; omega) (by rw [d3]; omega)
  · obtain ⟨d, hd⟩ : ∃ d, d = (n + 1074).toNat := ⟨_, rfl⟩
    have hdl : L + d < 52 := by omega
    have hlt : m * 2 ^ d < 4503599627370496 := by
      have h4 := Nat.mul_lt_mul_of_pos_right h2 (show 0 < 2 ^ d from Nat.pow_pos (by decide))
      rw [← Nat.pow_add] at h4
      exact Nat.lt_of_lt_of_le h4 (Nat.le_trans (Nat.pow_le_pow_right (by decide) (show L + 1 + d ≤ 52 by omega)) (by decide))
    obtain ⟨d1, d2⟩ := mant_small hlt
    exact key (m * 2 ^ d) d (by unfold infB; omega) d1 (by rw [d2]; omega)
theorem oddE_ge {r : Nat} : -1074 ≤ oddE r := by
  unfold oddE
  have := takenE_ge r
  omega
theorem nearest_le (m : Nat) (n : Int) : D.nearest false m n ≤ infB := by
  obtain ⟨r, h1, h2⟩ := nearest_rung false m n
  rw [h2 false, word_f]
  exact h1
end Go.Proofs.YtiidkgdlngcpgaaGreatDoor
