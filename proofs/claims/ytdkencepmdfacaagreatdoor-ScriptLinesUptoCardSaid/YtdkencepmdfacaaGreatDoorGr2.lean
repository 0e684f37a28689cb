/- Texts of numbers, plain: digits and their value; which text is a number's. Texts of numbers, plain: what Parse tells; a text is its number's just if the number is there. -/
import Derived.Test.YtdkencepmdfacaaGreatDoorFl
import Derived.Test.YtdkencepmdfacaaGreatDoorGr1
import Derived.Lib.AtoiAll
import Derived.Lib.ParseIntB
import Derived.Lib.Bytealg
import Derived.Lib.Strings
set_option maxRecDepth 100000
namespace Go.Proofs.YtdkencepmdfacaaGreatDoor
open Go.RowKit Ieee

def dvalFrom (a : Nat) (l : List UInt8) : Nat := l.foldl (fun a c => 10 * a + (c.toNat - 48)) a
def dval (l : List UInt8) : Nat := dvalFrom 0 l
theorem dvalFrom_cons (a : Nat) (c : UInt8) (l : List UInt8) : dvalFrom a (c :: l) = dvalFrom (10 * a + (c.toNat - 48)) l := by
  unfold dvalFrom
  rw [List.foldl_cons]
theorem dvalFrom_app (a : Nat) (l m : List UInt8) : dvalFrom a (l ++ m) = dvalFrom (dvalFrom a l) m := List.foldl_append ..
theorem dvalFrom_nil (a : Nat) : dvalFrom a [] = a := by
  unfold dvalFrom
  rw [List.foldl_nil]
theorem dval_snoc (l : List UInt8) (c : UInt8) : dval (l ++ [c]) = 10 * dval l + (c.toNat - 48) := by
  unfold dval
  rw [dvalFrom_app, dvalFrom_cons, dvalFrom_nil]
theorem dvalFrom_ge : ∀ (l : List UInt8) (a : Nat), a ≤ dvalFrom a l
  | [], a => Nat.le_refl _
  | c :: l, a => Nat.le_trans (by omega) (dvalFrom_ge l (10 * a + (c.toNat - 48)))
theorem dig_range {c : UInt8} (h : isDig c = true) : 48 ≤ c.toNat ∧ c.toNat ≤ 57 := by
  unfold isDig at h
  rw [Bool.and_eq_true] at h
  exact ⟨of_decide_eq_true h.1, of_decide_eq_true h.2⟩

theorem parseUintM_dig {M : Nat} (hM : M < 18446744073709551616) : ∀ (l : List UInt8) (acc : Nat), l.all isDig = true → acc ≤ M → Lib.parseUintM M acc l = if dvalFrom acc l ≤ M then .ok (dvalFrom acc l) else .range
  | [], acc, _, ha => by
    rw [Lib.parseUintM, if_pos (show dvalFrom acc [] ≤ M from ha)]
    rfl
  | c :: l, acc, hd, ha => by
    rw [List.all_cons, Bool.and_eq_true] at hd
    obtain ⟨h1, h2⟩ := dig_range hd.1
    rw [Lib.parseUintM, if_pos ⟨h1, h2⟩, dvalFrom_cons]
    have hge := dvalFrom_ge l (10 * acc + (c.toNat - 48))
    by_cases k1 : 1844674407370955162 ≤ acc
    · rw [if_pos k1, if_neg (by omega)]
    · rw [if_neg k1]
      by_cases k2 : M < acc * 10 + (c.toNat - 48)
      · rw [if_pos k2, if_neg (by omega)]
      · rw [if_neg k2, Nat.mul_comm acc 10]
        exact parseUintM_dig hM l _ hd.2 (by omega)
theorem parseUint10_dig : ∀ (l : List UInt8) (acc : Nat), l.all isDig = true → acc < 18446744073709551616 → Lib.parseUint10 acc l = if dvalFrom acc l < 18446744073709551616 then .ok (dvalFrom acc l) else .range
  | [], acc, _, ha => by
    rw [Lib.parseUint10, if_pos (show dvalFrom acc [] < _ from ha)]
    rfl
  | c :: l, acc, hd, ha => by
    rw [List.all_cons, Bool.and_eq_true] at hd
    obtain ⟨h1, h2⟩ := dig_range hd.1
    rw [Lib.parseUint10, if_pos ⟨h1, h2⟩, dvalFrom_cons]
    have hge := dvalFrom_ge l (10 * acc + (c.toNat - 48))
    by_cases k1 : 1844674407370955162 ≤ acc
    · rw [if_pos k1, if_neg (by omega)]
    · rw [if_neg k1]
      by_cases k2 : 18446744073709551616 ≤ acc * 10 + (c.toNat - 48)
      · rw [if_pos k2, if_neg (by omega)]
      · rw [if_neg k2, Nat.mul_comm acc 10]
        exact parseUint10_dig l _ hd.2 (by omega)

/-- a numeral without noughts ahead -/
def canonB (l : List UInt8) : Bool := l.all isDig && (decide (l = [48]) || (decide (l ≠ []) && decide ((l.getD 0 0).toNat ≠ 48)))
theorem digitsB_is (s : ByteArray) : digitsB s = canonB s.data.toList := by
  unfold digitsB canonB
  have h1 : decide (s = ⟨#[48]⟩) = decide (s.data.toList = [48]) := decide_eq_decide.2 ⟨fun h => by rw [h], fun h => by
    apply ByteArray.ext
    rw [← Array.toArray_toList (xs := s.data), h]⟩
  have h2 : decide (s.size ≠ 0) = decide (s.data.toList ≠ []) := decide_eq_decide.2 (by
    have : s.data.toList.length = s.size := Array.length_toList
    constructor
    · intro h e
      rw [e] at this
      exact h this.symm
    · intro h e
      rw [e] at this
      exact h (List.length_eq_zero_iff.1 this))
  rw [h1, h2]
theorem canon_digs {l : List UInt8} (h : canonB l = true) : l.all isDig = true ∧ l ≠ [] := by
  unfold canonB at h
  rw [Bool.and_eq_true] at h
  refine ⟨h.1, fun e => ?_⟩
  rw [e] at h
  exact absurd h.2 (by decide)
theorem dval_pos : ∀ (l : List UInt8) (a : Nat), 0 < a → 0 < dvalFrom a l := fun l a h => Nat.lt_of_lt_of_le h (dvalFrom_ge l a)
theorem canon_pos {l : List UInt8} (h : canonB l = true) (h0 : l ≠ [48]) : 0 < dval l := by
  unfold canonB at h
  rw [Bool.and_eq_true, Bool.or_eq_true] at h
  rcases h.2 with k | k
  · exact absurd (of_decide_eq_true k) h0
  · rw [Bool.and_eq_true] at k
    cases l with
    | nil => exact absurd rfl (of_decide_eq_true k.1)
    | cons c l =>
      have hc := of_decide_eq_true k.2
      have hd := h.1
      rw [List.all_cons, Bool.and_eq_true] at hd
      have := dig_range hd.1
      have hc2 : c.toNat ≠ 48 := by
        rw [List.getD_cons_zero] at hc
        exact hc
      unfold dval
      rw [dvalFrom_cons]
      exact dval_pos l _ (by omega)
theorem decDigits_snoc {n : Nat} (h : 10 ≤ n) : Lib.decDigits n = Lib.decDigits (n / 10) ++ [UInt8.ofNat (48 + n % 10)] := by
  rw [Lib.decDigits, dif_neg (by omega)]
theorem byte_back {c : UInt8} (h : isDig c = true) : UInt8.ofNat (48 + (c.toNat - 48)) = c := by
  have := dig_range h
  rw [show 48 + (c.toNat - 48) = c.toNat by omega, UInt8.ofNat_toNat]
theorem canon_init {l : List UInt8} {c : UInt8} (h : canonB (l ++ [c]) = true) (hl : l ≠ []) : canonB l = true ∧ l ≠ [48] := by
  unfold canonB at h ⊢
  rw [Bool.and_eq_true, List.all_append, Bool.and_eq_true, Bool.or_eq_true] at h
  cases l with
  | nil => exact absurd rfl hl
  | cons a l =>
    rcases h.2 with k | k
    · have k1 := of_decide_eq_true k
      rw [List.cons_append] at k1
      injection k1 with _ k2
      cases l <;> cases k2
    · rw [Bool.and_eq_true] at k
      have k2 := of_decide_eq_true k.2
      have k3 : a.toNat ≠ 48 := k2
      refine ⟨?_, fun e => ?_⟩
      · rw [h.1.1, Bool.true_and, Bool.or_eq_true, Bool.and_eq_true]
        exact .inr ⟨decide_eq_true (by simp), decide_eq_true k3⟩
      · injection e with e1 _
        exact k3 (by rw [e1]; rfl)
theorem canon_back : ∀ (n : Nat) (l : List UInt8), l.length ≤ n → canonB l = true → Lib.decDigits (dval l) = l
  | 0, l, h, hc => absurd (List.length_eq_zero_iff.1 (Nat.le_zero.1 h)) (canon_digs hc).2
  | n + 1, l, h, hc => by
    rcases List.eq_nil_or_concat l with e | ⟨m, c, e⟩
    · exact absurd e (canon_digs hc).2
    · rw [List.concat_eq_append] at e
      subst e
      have hd := (canon_digs hc).1
      rw [List.all_append, Bool.and_eq_true] at hd
      have hcd : isDig c = true := by simpa using hd.2
      have hr := dig_range hcd
      rw [dval_snoc]
      by_cases hm : m = []
      · subst hm
        rw [show dval ([] : List UInt8) = 0 from rfl, Nat.mul_zero, Nat.zero_add, Lib.decDigits, dif_pos (by omega), byte_back hcd]
        rfl
      · obtain ⟨h1, h2⟩ := canon_init hc hm
        have hp := canon_pos h1 h2
        rw [decDigits_snoc (by omega), show (10 * dval m + (c.toNat - 48)) / 10 = dval m by omega, show (10 * dval m + (c.toNat - 48)) % 10 = c.toNat - 48 by omega, byte_back hcd]
        rw [List.length_append] at h
        rw [canon_back n m (by simpa using h) h1]
theorem digit_of {d : Nat} (h : d < 10) : (UInt8.ofNat (48 + d)).toNat = 48 + d ∧ isDig (UInt8.ofNat (48 + d)) = true := by
  have h1 : (UInt8.ofNat (48 + d)).toNat = 48 + d := by
    rw [UInt8.toNat_ofNat']
    omega
  refine ⟨h1, ?_⟩
  unfold isDig
  rw [h1, decide_eq_true (by omega), decide_eq_true (by omega)]
  rfl
theorem decDigits_val : ∀ (n : Nat), dval (Lib.decDigits n) = n ∧ (Lib.decDigits n).all isDig = true := fun n => by
  induction n using Nat.strongRecOn with
  | _ n ih =>
    by_cases c : n < 10
    · obtain ⟨h1, h2⟩ := digit_of c
      rw [Lib.decDigits, dif_pos c]
      refine ⟨?_, by rw [List.all_cons, h2]; rfl⟩
      unfold dval
      rw [dvalFrom_cons, dvalFrom_nil, h1]
      omega
    · obtain ⟨i1, i2⟩ := ih (n / 10) (by omega)
      obtain ⟨h1, h2⟩ := digit_of (show n % 10 < 10 by omega)
      rw [decDigits_snoc (by omega)]
      refine ⟨?_, by rw [List.all_append, i2, Bool.true_and, List.all_cons, h2]; rfl⟩
      rw [dval_snoc, i1, h1]
      omega

/-! ### amounts: which are exact -/
theorem nearest_inf {m : Nat} {n : Int} (h0 : m ≠ 0) (h53 : m < 9007199254740992) (h : 971 < n + (m.log2 : Int) - 52) : D.nearest false m n = infB := by
  rw [← rnd_nearest false n h0 (Nat.lt_trans h53 (by decide))]
  unfold rnd rndR
  have hb : bitLen m = m.log2 + 1 := bitLen_pos h0
  have hq : rndQ m n = n + (m.log2 : Int) - 52 := by
    unfold rndQ
    rw [hb, if_neg (by omega)]
    omega
  have hl : m.log2 ≤ 52 := by
    have := (Nat.log2_lt (k := 53) h0).2 (show m < 2 ^ 53 from h53)
    omega
  rw [hq, word_f, if_neg (by omega)]
  simp only
  rw [if_pos h]
theorem nearest_exact {m : Nat} {n : Int} (ho : m % 2 = 1) (h53 : m < 9007199254740992) (hn : -1074 ≤ n) (h : n + (m.log2 : Int) - 52 ≤ 971) :
    ∃ r, D.nearest false m n = r ∧ r < infB ∧ r ≠ 0 ∧ oddM r = m ∧ oddE r = n := by
  have h0 : m ≠ 0 := by omega
  have hl : m.log2 ≤ 52 := by
    have := (Nat.log2_lt (k := 53) h0).2 (show m < 2 ^ 53 from h53)
    omega
  have h1 := log_le m h0
  have h2 : m < 2 ^ (m.log2 + 1) := Nat.lt_log2_self
  obtain ⟨L, hL⟩ : ∃ L, L = m.log2 := ⟨_, rfl⟩
  rw [← hL] at hl h1 h2 h
  -- r with the amount m 2^d at the exponent n - d
  have key : ∀ (r d : Nat), r < infB → takenM r = m * 2 ^ d → takenE r + (d : Int) = n → ∃ r, D.nearest false m n = r ∧ r < infB ∧ r ≠ 0 ∧ oddM r = m ∧ oddE r = n := fun r d hr hM hE => by
    have hr0 : r ≠ 0 := fun e => by
      rw [e] at hM
      have : 0 < m * 2 ^ d := Nat.mul_pos (by omega) (Nat.pow_pos (by decide))
      have h00 : takenM 0 = 0 := rfl
      omega
    obtain ⟨q1, q2, _⟩ := odd_split hr0
    obtain ⟨u1, u2⟩ := odd_unique _ _ (q1.symm.trans hM) q2 ho
    refine ⟨r, ?_, hr, hr0, u1, ?_⟩
    · rw [← nearest_scale false (d := d) (f := takenE r) (by omega) (by omega), ← hM, nearest_taken false hr, word_f]
    · unfold oddE
      rw [u2]
      exact hE
  by_cases c : -1074 ≤ n - 52 + (L : Int)
  · have e1 : 2 ^ L * 2 ^ (52 - L) = 4503599627370496 := by
      rw [← Nat.pow_add, show L + (52 - L) = 52 by omega]
    have e2 : 2 ^ (L + 1) * 2 ^ (52 - L) = 9007199254740992 := by
      rw [← Nat.pow_add, show L + 1 + (52 - L) = 53 by omega]
    have h3 := Nat.mul_le_mul_right (2 ^ (52 - L)) h1
    have h4 := Nat.mul_lt_mul_of_pos_right h2 (show 0 < 2 ^ (52 - L) from Nat.pow_pos (by decide))
    obtain ⟨M, hM⟩ : ∃ M, M = m * 2 ^ (52 - L) := ⟨_, rfl⟩
    rw [← hM] at h3 h4
    obtain ⟨r, hr⟩ : ∃ r, r = (n + (L : Int) + 1022).toNat * 4503599627370496 + M := ⟨_, rfl⟩
    obtain ⟨d1, d2, d3, d4⟩ := mant_big (r := r) (by omega)
    refine key r (52 - L) (by unfold infB; omega) (by rw [d4, ← hM]; omega) (by rw [d3]; omega)
  · obtain ⟨d, hd⟩ : ∃ d, d = (n + 1074).toNat := ⟨_, rfl⟩
    have hdl : L + d < 52 := by omega
    have hlt : m * 2 ^ d < 4503599627370496 := by
      have h4 := Nat.mul_lt_mul_of_pos_right h2 (show 0 < 2 ^ d from Nat.pow_pos (by decide))
      rw [← Nat.pow_add] at h4
      exact Nat.lt_of_lt_of_le h4 (Nat.le_trans (Nat.pow_le_pow_right (by decide) (show L + 1 + d ≤ 52 by omega)) (by decide))
    obtain ⟨d1, d2⟩ := mant_small hlt
    exact key (m * 2 ^ d) d (by unfold infB; omega) d1 (by rw [d2]; omega)
theorem oddE_ge {r : Nat} : -1074 ≤ oddE r := by
  unfold oddE
  have := takenE_ge r
  omega
theorem nearest_le (m : Nat) (n : Int) : D.nearest false m n ≤ infB := by
  obtain ⟨r, h1, h2⟩ := nearest_rung false m n
  rw [h2 false, word_f]
  exact h1
end Go.Proofs.YtdkencepmdfacaaGreatDoor

set_option maxRecDepth 100000
namespace Go.Proofs.YtdkencepmdfacaaGreatDoor
open Go.RowKit Ieee

theorem strip_eq (l : List UInt8) : l = (if Lib.hasPrefix l [45] = true then [45] else []) ++ Lib.trimPrefix l [45] := by
  unfold Lib.trimPrefix
  cases l with
  | nil => rfl
  | cons c l =>
    by_cases h : c = 45
    · subst h
      have : Lib.hasPrefix (45 :: l) [45] = true := by
        unfold Lib.hasPrefix
        simp [List.isPrefixOf]
      rw [if_pos this, if_pos this]
      rfl
    · have : Lib.hasPrefix (c :: l) [45] = false := by
        unfold Lib.hasPrefix
        have hb : (45 == c) = false := beq_eq_false_iff_ne.2 fun e => h e.symm
        simp [List.isPrefixOf, hb]
      rw [if_neg (by rw [this]; decide), if_neg (by rw [this]; decide)]
      rfl
theorem index_split : ∀ (l : List UInt8) (c : UInt8), (Lib.indexByte l c = -1 ∧ c ∉ l) ∨ ∃ i : Nat, Lib.indexByte l c = (i : Int) ∧ i < l.length ∧ l = l.take i ++ c :: l.drop (i + 1) ∧ c ∉ l.take i
  | [], c => .inl ⟨rfl, List.not_mem_nil⟩
  | b :: l, c => by
    by_cases h : b = c
    · subst h
      refine .inr ⟨0, ?_, by simp, by simp, by simp⟩
      show (if b == b then 0 else _) = _
      rw [if_pos (by simp)]
      rfl
    · have hb : (b == c) = false := beq_eq_false_iff_ne.2 h
      have he : Lib.indexByte (b :: l) c = if Lib.indexByte l c == -1 then -1 else Lib.indexByte l c + 1 := by
        show (if b == c then 0 else _) = _
        rw [if_neg (by rw [hb]; decide)]
      rcases index_split l c with ⟨h1, h2⟩ | ⟨i, h1, h2, h3, h4⟩
      · refine .inl ⟨?_, ?_⟩
        · rw [he, h1]
          rfl
        · intro hm
          rcases List.mem_cons.1 hm with e | e
          · exact h e.symm
          · exact h2 e
      · refine .inr ⟨i + 1, ?_, by simp only [List.length_cons]; omega, ?_, ?_⟩
        · rw [he, h1, if_neg (by simp)]
          rfl
        · rw [List.take_succ_cons, List.drop_succ_cons, List.cons_append, ← h3]
        · rw [List.take_succ_cons]
          intro hm
          rcases List.mem_cons.1 hm with e | e
          · exact h e.symm
          · exact h4 e
theorem split_unique {c : UInt8} : ∀ {a b x y : List UInt8}, a ++ c :: b = x ++ c :: y → c ∉ a → c ∉ x → a = x ∧ b = y
  | [], b, [], y, h, _, _ => by
    injection h with _ h2
    exact ⟨rfl, h2⟩
  | [], b, p :: x, y, h, _, hx => by
    injection h with h1 _
    exact absurd (h1 ▸ List.mem_cons_self) hx
  | p :: a, b, [], y, h, ha, _ => by
    injection h with h1 _
    exact absurd (h1 ▸ List.mem_cons_self) ha
  | p :: a, b, q :: x, y, h, ha, hx => by
    rw [List.cons_append, List.cons_append] at h
    injection h with h1 h2
    obtain ⟨k1, k2⟩ := split_unique h2 (fun m => ha (List.mem_cons_of_mem _ m)) (fun m => hx (List.mem_cons_of_mem _ m))
    exact ⟨by rw [h1, k1], k2⟩
theorem digs_no {l : List UInt8} (h : l.all isDig = true) {c : UInt8} (hc : isDig c = false) : c ∉ l := fun hm => by
  have := List.all_eq_true.1 h c hm
  rw [hc] at this
  cases this

/-- the exponent of a text -/
def expOf (ex : List UInt8) : Int := if Lib.hasPrefix ex [45] = true then -((dval (Lib.trimPrefix ex [45]) : Nat) : Int) else ((dval (Lib.trimPrefix ex [45]) : Nat) : Int)
theorem itoa_exp {ex : List UInt8} (hc : canonB (Lib.trimPrefix ex [45]) = true) (hz : ¬ (Lib.hasPrefix ex [45] = true ∧ Lib.trimPrefix ex [45] = [48])) : Lib.itoa (expOf ex) = ex := by
  have hs := strip_eq ex
  unfold expOf
  obtain ⟨e, he⟩ : ∃ e, e = Lib.trimPrefix ex [45] := ⟨_, rfl⟩
  rw [← he] at hc hz hs ⊢
  by_cases h : Lib.hasPrefix ex [45] = true
  · rw [if_pos h] at hs ⊢
    have hp := canon_pos hc fun e48 => hz ⟨h, e48⟩
    unfold Lib.itoa
    rw [if_pos (by omega), show (-((dval e : Nat) : Int)).natAbs = dval e by omega, canon_back _ e (Nat.le_refl _) hc]
    exact hs.symm
  · rw [if_neg h] at hs ⊢
    unfold Lib.itoa
    rw [if_neg (by omega), Int.toNat_natCast, canon_back _ e (Nat.le_refl _) hc]
    exact hs.symm
theorem itoa_back {ex : List UInt8} {E : Int} (hc : canonB (Lib.trimPrefix ex [45]) = true) (h : Lib.itoa E = ex) : E = expOf ex := by
  have hs := strip_eq ex
  unfold expOf
  obtain ⟨e, he⟩ : ∃ e, e = Lib.trimPrefix ex [45] := ⟨_, rfl⟩
  rw [← he] at hc hs ⊢
  have hd := (canon_digs hc).1
  have h45 : isDig 45 = false := by decide
  unfold Lib.itoa at h
  by_cases k : Lib.hasPrefix ex [45] = true
  · rw [if_pos k] at hs ⊢
    rw [hs] at h
    by_cases c : E < 0
    · rw [if_pos c] at h
      injection h with _ h2
      have := (decDigits_val E.natAbs).1
      rw [h2] at this
      have h3 : dval ([] ++ e) = E.natAbs := this
      rw [List.nil_append] at h3
      omega
    · rw [if_neg c] at h
      have := (decDigits_val E.toNat).2
      rw [h] at this
      exact absurd (List.mem_cons_self (a := (45 : UInt8))) (digs_no this h45)
  · rw [if_neg k, List.nil_append] at hs
    rw [if_neg k]
    rw [hs] at h
    by_cases c : E < 0
    · rw [if_pos c] at h
      rw [← h] at hd
      exact absurd (List.mem_cons_self (a := (45 : UInt8))) (digs_no hd h45)
    · rw [if_neg c] at h
      have := (decDigits_val E.toNat).1
      rw [h] at this
      omega

theorem word_facts (s : Bool) {r : Nat} (h : r ≤ infB) : isN (D.word s r) = false ∧ (signB ≤ D.word s r ↔ s = true) ∧ D.word s r % signB = r := by
  have hr : r < signB := Nat.lt_of_le_of_lt h (by decide)
  have h1 := word_mod s hr
  refine ⟨?_, ?_, h1⟩
  · unfold isN
    rw [h1]
    exact decide_eq_false (by omega)
  · have h2 := sign_word s hr
    constructor
    · intro k
      rw [decide_eq_true k] at h2
      exact h2.symm
    · intro k
      rw [k] at h2
      rw [k]
      exact of_decide_eq_true h2
/-- the text of a number of that amount is the text that was read just if the amount is there -/
theorem text_match {s : Bool} {l od ex : List UInt8} (hl : l = (if s = true then [45] else []) ++ (od ++ 112 :: ex)) (ho : canonB od = true) (h1 : dval od % 2 = 1) (h2 : dval od < 9007199254740992)
    (hc : canonB (Lib.trimPrefix ex [45]) = true) (hz : ¬ (Lib.hasPrefix ex [45] = true ∧ Lib.trimPrefix ex [45] = [48])) :
    ftext (D.word s (D.nearest false (dval od) (expOf ex))) = l ↔ (-1074 ≤ expOf ex ∧ D.nearest false (dval od) (expOf ex) ≠ infB) := by
  have hle := nearest_le (dval od) (expOf ex)
  obtain ⟨w1, w2, w3⟩ := word_facts s hle
  have hod := canon_digs ho
  have h112 : isDig 112 = false := by decide
  unfold ftext
  rw [w1, w3, if_neg (by decide)]
  have hsg : (if signB ≤ D.word s (D.nearest false (dval od) (expOf ex)) then ([45] : List UInt8) else []) = if s = true then [45] else [] := by
    by_cases k : s = true
    · rw [if_pos (w2.2 k), if_pos k]
    · rw [if_neg fun e => k (w2.1 e), if_neg k]
  rw [hsg, hl]
  obtain ⟨n, hn⟩ : ∃ n, n = expOf ex := ⟨_, rfl⟩
  have hI := itoa_exp hc hz
  have hB : ∀ E, Lib.itoa E = ex → E = expOf ex := fun E => itoa_back hc
  rw [← hn] at hI hB ⊢
  obtain ⟨x, hx⟩ : ∃ x, x = D.nearest false (dval od) n := ⟨_, rfl⟩
  constructor
  · intro h
    have h3 := List.append_cancel_left h
    rw [← hx] at h3 ⊢
    by_cases c1 : x = infB
    · rw [if_pos c1] at h3
      exfalso
      cases od with
      | nil => exact hod.2 rfl
      | cons c od =>
        rw [List.cons_append] at h3
        injection h3 with h4 _
        have := hod.1
        rw [List.all_cons, Bool.and_eq_true, ← h4] at this
        exact absurd this.1 (by decide)
    rw [if_neg c1] at h3
    by_cases c2 : x = 0
    · rw [if_pos c2] at h3
      exfalso
      have hlen := congrArg List.length h3
      rw [List.length_append, List.length_cons] at hlen
      have : od.length ≠ 0 := fun e => hod.2 (List.length_eq_zero_iff.1 e)
      simp at hlen
      omega
    rw [if_neg c2] at h3
    obtain ⟨_, u2⟩ := split_unique h3 (digs_no (decDigits_val _).2 h112) (digs_no hod.1 h112)
    have := hB _ u2
    have hge := @oddE_ge x
    exact ⟨by omega, c1⟩
  · rintro ⟨h3, h4⟩
    by_cases c : n + ((dval od).log2 : Int) - 52 ≤ 971
    · obtain ⟨r, r1, r2, r3, r4, r5⟩ := nearest_exact h1 h2 h3 c
      rw [r1, if_neg (show ¬ r = infB by omega), if_neg r3, r4, r5, hI, canon_back _ od (Nat.le_refl _) ho]
    · exact absurd (nearest_inf (by omega) h2 (by omega)) h4

/-- what Parse tells -/
def fparse (l : List UInt8) : Nat × Int :=
  if l = [110, 97, 110] then (nanB, 0)
  else if l = [105, 110, 102] then (infB, 0)
  else if l = [45, 105, 110, 102] then (18442240474082181120, 0)
  else if l = [48] then (0, 0)
  else if l = [45, 48] then (9223372036854775808, 0)
  else
    if Lib.indexByte (Lib.trimPrefix l [45]) 112 < 0 then (0, 10)
    else fparse2 (Lib.hasPrefix l [45]) ((Lib.trimPrefix l [45]).take (Lib.indexByte (Lib.trimPrefix l [45]) 112).toNat) ((Lib.trimPrefix l [45]).drop ((Lib.indexByte (Lib.trimPrefix l [45]) 112).toNat + 1))
where
  fparse2 (s : Bool) (od ex : List UInt8) : Nat × Int :=
    if canonB od = false ∨ dval od % 2 = 0 ∨ canonB (Lib.trimPrefix ex [45]) = false ∨ (Lib.hasPrefix ex [45] = true ∧ Lib.trimPrefix ex [45] = [48]) then (0, 10)
    else if 9007199254740992 ≤ dval od ∨ 4000 < dval (Lib.trimPrefix ex [45]) then (0, 11)
    else if expOf ex < -1074 ∨ D.nearest false (dval od) (expOf ex) = infB then (0, 11)
    else (D.word s (D.nearest false (dval od) (expOf ex)), 0)
end Go.Proofs.YtdkencepmdfacaaGreatDoor
