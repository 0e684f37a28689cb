/- Texts of numbers, plain: what Parse tells; a text is its number's just if the number is there. -/
import Derived.Test.YtiidkgdlngcpgaaGreatDoorJa
import Derived.Lib.Strings
set_option maxRecDepth 100000
namespace Go.Proofs.YtiidkgdlngcpgaaGreatDoor
open Go.RowKit Ieee

theorem strip_eq (l : List UInt8) : l = (if Lib.hasPrefix l [45] = true then [45] else []) ++ Lib.trimPrefix l [45] := by
  unfold Lib.trimPrefix
  cases l with
  | nil => rfl
  | cons c l =>
    by_cases h : c = 45
    · subst h
      have : Lib.hasPrefix (45 :: l) [45] = true := by
        unfold Lib.hasPrefix
        simp [List.isPrefixOf]
      rw [if_pos this, if_pos this]
      rfl
    · have : Lib.hasPrefix (c :: l) [45] = false := by
        unfold Lib.hasPrefix
        have hb : (45 == c) = false := beq_eq_false_iff_ne.2 fun e => h e.symm
        simp [List.isPrefixOf, hb]
      rw [if_neg (by rw [this]; decide), if_neg (by rw [this]; decide)]
      rfl
theorem index_split : ∀ (l : List UInt8) (c : UInt8), (Lib.indexByte l c = -1 ∧ c ∉ l) ∨ ∃ i : Nat, Lib.indexByte l c = (i : Int) ∧ i < l.length ∧ l = l.take i ++ c :: l.drop (i + 1) ∧ c ∉ l.take i
  | [], c => .inl ⟨rfl, List.not_mem_nil⟩
  | b :: l, c => by
    by_cases h : b = c
    · subst h
      refine .inr ⟨0, ?_, by simp, by simp, by simp⟩
      show (if b == b then 0 else _) = _
      rw [if_pos (by simp)]
      rfl
    · have hb : (b == c) = false := beq_eq_false_iff_ne.2 h
      have he : Lib.indexByte (b :: l) c = if Lib.indexByte l c == -1 then -1 else Lib.indexByte l c + 1 := by
        show (if b == c then 0 else _) = _
        rw [if_neg (by rw [hb]; decide)]
      rcases index_split l c with ⟨h1, h2⟩ | ⟨i, h1, h2, h3, h4⟩
      · refine .inl ⟨?_, ?_⟩
        · rw [he, h1]
          rfl
        · intro hm
          rcases List.mem_cons.1 hm with e | e
          · exact h e.symm
          · exact h2 e
      · refine .inr ⟨i + 1, ?_, by simp only [List.length_cons]; omega, ?_, ?_⟩
        · rw [he, h1, if_neg (by simp)]
          rfl
        · rw [List.take_succ_cons, List.drop_succ_cons, List.cons_append, ← h3]
        · rw [List.take_succ_cons]
          intro hm
          rcases List.mem_cons.1 hm with e | e
          · exact h e.symm
          · exact h4 e
theorem split_unique {c : UInt8} : ∀ {a b x y : List UInt8}, a ++ c :: b = x ++ c :: y → c ∉ a → c ∉ x → a = x ∧ b = y
  | [], b, [], y, h, _, _ => by
    injection h with _ h2
    exact ⟨rfl, h2⟩
  | [], b, p :: x, y, h, _, hx => by
    injection h with h1 _
    exact absurd (h1 ▸ List.mem_cons_self) hx
  | p :: a, b, [], y, h, ha, _ => by
    injection h with h1 _
    exact absurd (h1 ▸ List.mem_cons_self) ha
  | p :: a, b, q :: x, y, h, ha, hx => by
    rw [List.cons_append, List.cons_append] at h
    injection h with h1 h2
    obtain ⟨k1, k2⟩ := split_unique h2 (fun m => ha (List.mem_cons_of_mem _ m)) (fun m => hx (List.mem_cons_of_mem _ m))
    exact ⟨by rw [h1, k1], k2⟩
theorem digs_no {l : List UInt8} (h : l.all isDig = true) {c : UInt8} (hc : isDig c = false) : c ∉ l := fun hm => by
  have := List.all_eq_true.1 h c hm
  rw [hc] at this
  cases this

/-- the exponent of a text -/
def expOf (ex : List UInt8) : Int := if Lib.hasPrefix ex [45] = true then -((dval (Lib.trimPrefix ex [45]) : Nat) : Int) else ((dval (Lib.trimPrefix ex [45]) : Nat) : Int)
theorem itoa_exp {ex : List UInt8} (hc : canonB (Lib.trimPrefix ex [45]) = true) (hz : ¬ (Lib.hasPrefix ex [45] = true ∧ Lib.trimPrefix ex [45] = [48])) : Lib.itoa (expOf ex) = ex := by
  have hs := strip_eq ex
  unfold expOf
  obtain ⟨e, he⟩ : ∃ e, e = Lib.trimPrefix ex [45] := ⟨_, rfl⟩
  rw [← he] at hc hz hs ⊢
  by_cases h : Lib.hasPrefix ex [45] = true
  · rw [if_pos h] at hs ⊢
    have hp := canon_pos hc fun e48 => hz ⟨h, e48⟩
    unfold Lib.itoa
    rw [if_pos (by omega), show (-((dval e : Nat) : Int)).natAbs = dval e by omega, canon_back _ e (Nat.le_refl _) hc]
    exact hs.symm
  · rw [if_neg h] at hs ⊢
    unfold Lib.itoa
    rw [if_neg (by omega), Int.toNat_natCast, canon_back _ e (Nat.le_refl _) hc]
    exact hs.symm
theorem itoa_back {ex : List UInt8} {E : Int} (hc : canonB (Lib.trimPrefix ex [45]) = true) (h : Lib.itoa E = ex) : E = expOf ex := by
  have hs := strip_eq ex
  unfold expOf
  obtain ⟨e, he⟩ : ∃ e, e = Lib.trimPrefix ex [45] := ⟨_, rfl⟩
  rw [← he] at hc hs ⊢
  have hd := (canon_digs hc).1
  have h45 : isDig 45 = false := by decide
  unfold Lib.itoa at h
  by_cases k : Lib.hasPrefix ex [45] = true
  · rw [if_pos k] at hs ⊢
    rw [hs] at h
    by_cases c : E < 0
    · rw [if_pos c] at h
      injection h with _ h2
      have := (decDigits_val E.natAbs).1
      rw [h2] at this
      have h3 : dval ([] ++ e) = E.natAbs := this
      rw [List.nil_append] at h3
      omega
    · rw [if_neg c] at h
      have := (decDigits_val E.toNat).2
      rw [h] at this
      exact absurd (List.mem_cons_self (a := (45 : UInt8))) (digs_no this h45)
  · rw [if_neg k, List.nil_append] at hs
    rw [if_neg k]
    rw [hs] at h
    by_cases c : E < 0
    · rw [if_pos c] at h
      rw [← h] at hd
      exact absurd (List.mem_cons_self (a := (45 : UInt8))) (digs_no hd h45)
    · rw [if_neg c] at h
      have := (decDigits_val E.toNat).1
      rw [h] at this
      omega

theorem word_facts (s : Bool) {r : Nat} (h : r ≤ infB) : isN (D.word s r) = false ∧ (signB ≤ D.word s r ↔ s = true) ∧ D.word s r % signB = r := by
  have hr : r < signB := Nat.lt_of_le_of_lt h (by decide)
  have h1 := word_mod s hr
  refine ⟨?_, ?_, h1⟩
  · unfold isN
    rw [h1]
    exact decide_eq_false (by omega)
  · have h2 := sign_word s hr
    constructor
    · intro k
      rw [decide_eq_true k] at h2
      exact h2.symm
    · intro k
      rw [k] at h2
      rw [k]
      exact of_decide_eq_true h2
/-- the text of a number of that amount is the text that was read just if the amount is there -/
theorem text_match {s : Bool} {l od ex : List UInt8} (hl : l = (if s = true then [45] else []) ++ (od ++ 112 :: ex)) (ho : canonB od = true) (h1 : dval od % 2 = 1) (h2 : dval od < 9007199254740992)
    (hc : canonB (Lib.trimPrefix ex [45]) = true) (hz : ¬ (Lib.hasPrefix ex [45] = true ∧ Lib.trimPrefix ex [45] = [48])) :
    ftext (D.word s (D.nearest false (dval od) (expOf ex))) = l ↔ (-1074 ≤ expOf ex ∧ D.nearest false (dval od) (expOf ex) ≠ infB) := by
  have hle := nearest_le (dval od) (expOf ex)
  obtain ⟨w1, w2, w3⟩ := word_facts s hle
  have hod := canon_digs ho
  have h112 : isDig 112 = false := by decide
  unfold ftext
  rw [w1, w3, if_neg (by decide)]
  have hsg : (if signB ≤ D.word s (D.nearest false (dval od) (expOf ex)) then ([45] : List UInt8) else []) = if s = true then [45] else [] := by
    by_cases k : s = true
    · rw [if_pos (w2.2 k), if_pos k]
    · rw [if_neg fun e => k (w2.1 e), if_neg k]
  rw [hsg, hl]
  obtain ⟨n, hn⟩ : ∃ n, n = expOf ex := ⟨_, rfl⟩
  have hI := itoa_exp hc hz
  have hB : ∀ E, Lib.itoa E = ex → E = expOf ex := fun E => itoa_back hc
  rw [← hn] at hI hB ⊢
  obtain ⟨x, hx⟩ : ∃ x, x = D.nearest false (dval od) n := ⟨_, rfl⟩
  constructor
  · intro h
    have h3 := List.append_cancel_left h
    rw [← hx] at h3 ⊢
    by_cases c1 : x = infB
    · rw [if_pos c1] at h3
      exfalso
      cases od with
      | nil => exact hod.2 rfl
      | cons c od =>
        rw [List.cons_append] at h3
        injection h3 with h4 _
        have := hod.1
        rw [List.all_cons, Bool.and_eq_true, ← h4] at this
        exact absurd this.1 (by decide)
    rw [if_neg c1] at h3
    by_cases c2 : x = 0
    · rw [if_pos c2] at h3
      exfalso
      have hlen := congrArg List.length h3
      rw [List.length_append, List.length_cons] at hlen
      have : od.length ≠ 0 := fun e => hod.2 (List.length_eq_zero_iff.1 e)
      simp at hlen
      omega
    rw [if_neg c2] at h3
    obtain ⟨_, u2⟩ := split_unique h3 (digs_no (decDigits_val _).2 h112) (digs_no hod.1 h112)
    have := hB _ u2
    have hge := @oddE_ge x
    exact ⟨by omega, c1⟩
  · rintro ⟨h3, h4⟩
    by_cases c : n + ((dval od).log2 : Int) - 52 ≤ 971
    · obtain ⟨r, r1, r2, r3, r4, r5⟩ := nearest_exact h1 h2 h3 c
      rw [r1, if_neg (show ¬ r = infB by omega), if_neg r3, r4, r5, hI, canon_back _ od (Nat.le_refl _) ho]
    · exact absurd (nearest_inf (by omega) h2 (by omega)) h4

/-- what Parse tells -/
def fparse (l : List UInt8) : Nat × Int :=
  if l = [110, 97, 110] then (nanB, 0)
  else if l = [105, 110, 102] then (infB, 0)
  else if l = [45, 105, 110, 102] then (18442240474082181120, 0)
  else if l = [48] then (0, 0)
  else if l = [45, 48] then (9223372036854775808, 0)
  else
    if Lib.indexByte (Lib.trimPrefix l [45]) 112 < 0 then (0, 10)
    else fparse2 (Lib.hasPrefix l [45]) ((Lib.trimPrefix l [45]).take (Lib.indexByte (Lib.trimPrefix l [45]) 112).toNat) ((Lib.trimPrefix l [45]).drop ((Lib.indexByte (Lib.trimPrefix l [45]) 112).toNat + 1))
where
  fparse2 (s : Bool) (od ex : List UInt8) : Nat × Int :=
    if canonB od = false ∨ dval od % 2 = 0 ∨ canonB (Lib.trimPrefix ex [45]) = false ∨ (Lib.hasPrefix ex [45] = true ∧ Lib.trimPrefix ex [45] = [48]) then (0, 10)
    else if 9007199254740992 ≤ dval od ∨ 4000 < dval (Lib.trimPrefix ex [45]) then (0, 11)
    else if expOf ex < -1074 ∨ D.nearest false (dval od) (expOf ex) = infB then (0, 11)
    else (D.word s (D.nearest false (dval od) (expOf ex)), 0)
end Go.Proofs.YtiidkgdlngcpgaaGreatDoor
