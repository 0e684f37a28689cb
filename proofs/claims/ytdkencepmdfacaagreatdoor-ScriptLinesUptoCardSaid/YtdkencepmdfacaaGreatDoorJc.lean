/- Texts of numbers, plain: there and back (NumBack). -/
import Derived.Test.YtdkencepmdfacaaGreatDoorGr2
set_option maxRecDepth 100000
namespace Go.Proofs.YtdkencepmdfacaaGreatDoor
open Go.RowKit Ieee

theorem decDigits_ne (n : Nat) : Lib.decDigits n ≠ [] := by
  rw [Lib.decDigits]
  split <;> simp
theorem decDigits_head : ∀ (n : Nat), n ≠ 0 → ∃ c r, Lib.decDigits n = c :: r ∧ c.toNat ≠ 48 ∧ isDig c = true := fun n => by
  induction n using Nat.strongRecOn with
  | _ n ih =>
    intro h0
    by_cases c : n < 10
    · obtain ⟨h1, h2⟩ := digit_of c
      refine ⟨UInt8.ofNat (48 + n), [], ?_, by rw [h1]; omega, h2⟩
      rw [Lib.decDigits, dif_pos c]
    · obtain ⟨d, r, h1, h2, h3⟩ := ih (n / 10) (by omega) (by omega)
      refine ⟨d, r ++ [UInt8.ofNat (48 + n % 10)], ?_, h2, h3⟩
      rw [decDigits_snoc (by omega), h1, List.cons_append]
theorem decDigits_canon (n : Nat) : canonB (Lib.decDigits n) = true := by
  unfold canonB
  rw [(decDigits_val n).2, Bool.true_and, Bool.or_eq_true]
  by_cases h0 : n = 0
  · refine .inl (decide_eq_true ?_)
    rw [h0, Lib.decDigits, dif_pos (by decide)]
    rfl
  · obtain ⟨c, r, h1, h2, _⟩ := decDigits_head n h0
    refine .inr ?_
    rw [Bool.and_eq_true]
    refine ⟨decide_eq_true (decDigits_ne n), decide_eq_true ?_⟩
    rw [h1, List.getD_cons_zero]
    exact h2
theorem strip_dig {l : List UInt8} (h : l.all isDig = true) : Lib.hasPrefix l [45] = false ∧ Lib.trimPrefix l [45] = l := by
  have h1 : Lib.hasPrefix l [45] = false := by
    cases hp : Lib.hasPrefix l [45] with
    | false => rfl
    | true =>
      have hs := strip_eq l
      rw [if_pos hp] at hs
      rw [hs, List.all_append, Bool.and_eq_true] at h
      exact absurd h.1 (by decide)
  refine ⟨h1, ?_⟩
  have hs := strip_eq l
  rw [if_neg (by rw [h1]; decide), List.nil_append] at hs
  exact hs.symm
theorem strip_minus (l : List UInt8) : Lib.hasPrefix (45 :: l) [45] = true ∧ Lib.trimPrefix (45 :: l) [45] = l := by
  have h1 : Lib.hasPrefix (45 :: l) [45] = true := by
    unfold Lib.hasPrefix
    simp [List.isPrefixOf]
  refine ⟨h1, ?_⟩
  have hs := strip_eq (45 :: l)
  rw [if_pos h1] at hs
  exact (List.cons.inj hs).2.symm
theorem itoa_parts (E : Int) : canonB (Lib.trimPrefix (Lib.itoa E) [45]) = true ∧ ¬ (Lib.hasPrefix (Lib.itoa E) [45] = true ∧ Lib.trimPrefix (Lib.itoa E) [45] = [48]) ∧ expOf (Lib.itoa E) = E ∧ dval (Lib.trimPrefix (Lib.itoa E) [45]) = E.natAbs := by
  unfold expOf Lib.itoa
  by_cases c : E < 0
  · rw [if_pos c]
    obtain ⟨h1, h2⟩ := strip_minus (Lib.decDigits E.natAbs)
    rw [h1, h2, if_pos rfl, (decDigits_val _).1]
    refine ⟨decDigits_canon _, fun h => ?_, by omega, rfl⟩
    have := (decDigits_val E.natAbs).1
    rw [h.2] at this
    have h0 : dval [48] = 0 := by decide
    omega
  · rw [if_neg c]
    obtain ⟨h1, h2⟩ := strip_dig (decDigits_val E.toNat).2
    rw [h1, h2, if_neg (by decide), (decDigits_val _).1]
    exact ⟨decDigits_canon _, (fun h => nomatch h.1), by omega, by omega⟩

theorem index_at {a b : List UInt8} {c : UInt8} (h : c ∉ a) : Lib.indexByte (a ++ c :: b) c = (a.length : Int) ∧ (a ++ c :: b).take a.length = a ∧ (a ++ c :: b).drop (a.length + 1) = b := by
  have h2 : (a ++ c :: b).take a.length = a := by simp
  have h3 : (a ++ c :: b).drop (a.length + 1) = b := by
    rw [List.drop_append]
    simp
  refine ⟨?_, h2, h3⟩
  rcases index_split (a ++ c :: b) c with ⟨_, k⟩ | ⟨i, k1, k2, k3, k4⟩
  · exact absurd (List.mem_append_right a List.mem_cons_self) k
  · obtain ⟨u1, _⟩ := split_unique k3 h k4
    rw [k1]
    have := congrArg List.length u1
    rw [List.length_take] at this
    omega
theorem no_word {l w : List UInt8} (h : (112 : UInt8) ∈ l) (hw : (112 : UInt8) ∉ w) : l ≠ w := fun e => hw (e ▸ h)

/-- Parse of Text is the number -/
theorem fparse_text {a : Nat} (ha : a < 2 * signB) : fparse (ftext a) = (fcan a, 0) := by
  obtain ⟨wa, la⟩ := word_of ha
  by_cases hn : isN a = true
  · have h1 : ftext a = [110, 97, 110] := by
      unfold ftext
      rw [if_pos hn]
    unfold fparse fcan
    rw [h1, if_pos rfl, if_pos hn]
  have hn2 : isN a = false := by
    rw [Bool.not_eq_true] at hn
    exact hn
  have hc : fcan a = a := by
    unfold fcan
    rw [if_neg hn]
  have hle : a % signB ≤ infB := Nat.le_of_not_lt fun h => hn ((isN_iff a).2 h)
  rw [hc]
  have hF : ftext a = (if signB ≤ a then [45] else []) ++ (if a % signB = infB then [105, 110, 102] else if a % signB = 0 then [48] else Lib.decDigits (oddM (a % signB)) ++ 112 :: Lib.itoa (oddE (a % signB))) := by
    unfold ftext
    rw [if_neg hn]
  obtain ⟨s, hs⟩ : ∃ s, s = decide (signB ≤ a) := ⟨_, rfl⟩
  have hsg : (if signB ≤ a then ([45] : List UInt8) else []) = if s = true then [45] else [] := by
    rw [hs]
    by_cases k : signB ≤ a
    · rw [if_pos k, decide_eq_true k, if_pos rfl]
    · rw [if_neg k, decide_eq_false k, if_neg (by decide)]
  rw [hsg] at hF
  rw [← hs] at wa
  obtain ⟨x, hx⟩ : ∃ x, x = a % signB := ⟨_, rfl⟩
  rw [← hx] at hF wa hle
  rw [hF]
  by_cases c1 : x = infB
  · rw [if_pos c1, wa, c1]
    cases s
    · rw [if_neg (by decide)]
      rfl
    · rw [if_pos rfl]
      rfl
  rw [if_neg c1]
  by_cases c2 : x = 0
  · rw [if_pos c2, wa, c2]
    cases s
    · rw [if_neg (by decide)]
      rfl
    · rw [if_pos rfl]
      rfl
  rw [if_neg c2]
  have hxi : x < infB := by omega
  obtain ⟨q1, q2, q3⟩ := odd_split c2
  have ht53 := @taken_lt x
  have hodle : oddM x ≤ takenM x := by
    unfold oddM
    exact Nat.div_le_self _ _
  have hE0 := @oddE_ge x
  have hE1 := takenE_le hxi
  have hE : oddE x = takenE x + (Lib.ctz 64 (takenM x) : Int) := rfl
  have hnear : D.nearest false (oddM x) (oddE x) = x := by
    have h1 := nearest_taken false hxi
    rw [word_f] at h1
    have h2 : D.nearest false (oddM x * 2 ^ Lib.ctz 64 (takenM x)) (takenE x) = x := by
      rw [← q1]
      exact h1
    exact (nearest_scale false (m := oddM x) (d := Lib.ctz 64 (takenM x)) (e := oddE x) (f := takenE x) (by omega) (by omega)).symm.trans h2
  obtain ⟨p1, p2, p3, p4⟩ := itoa_parts (oddE x)
  obtain ⟨M, hM⟩ : ∃ M, M = oddM x := ⟨_, rfl⟩
  obtain ⟨E, hEE⟩ : ∃ M, M = oddE x := ⟨_, rfl⟩
  rw [← hM, ← hEE] at hnear ⊢
  rw [← hM] at q2 hodle
  rw [← hEE] at p1 p2 p3 p4 hE hE0
  have hdig := (decDigits_val M).2
  have h112 : (112 : UInt8) ∉ Lib.decDigits M := digs_no hdig (by decide)
  obtain ⟨i1, i2, i3⟩ := index_at (b := Lib.itoa E) h112
  have hmem : (112 : UInt8) ∈ (if s = true then ([45] : List UInt8) else []) ++ (Lib.decDigits M ++ 112 :: Lib.itoa E) := List.mem_append_right _ (List.mem_append_right _ List.mem_cons_self)
  have hst : Lib.hasPrefix ((if s = true then ([45] : List UInt8) else []) ++ (Lib.decDigits M ++ 112 :: Lib.itoa E)) [45] = s ∧ Lib.trimPrefix ((if s = true then ([45] : List UInt8) else []) ++ (Lib.decDigits M ++ 112 :: Lib.itoa E)) [45] = Lib.decDigits M ++ 112 :: Lib.itoa E := by
    cases s
    · rw [if_neg (by decide), List.nil_append]
      obtain ⟨c, r, h1, h2, h3⟩ := decDigits_head M (by omega)
      have hne : ¬ c = 45 := fun e => by
        rw [e] at h3
        exact absurd h3 (by decide)
      have hp : Lib.hasPrefix (Lib.decDigits M ++ 112 :: Lib.itoa E) [45] = false := by
        rw [h1, List.cons_append]
        unfold Lib.hasPrefix
        have hb : (45 == c) = false := beq_eq_false_iff_ne.2 fun e => hne e.symm
        simp [List.isPrefixOf, hb]
      refine ⟨hp, ?_⟩
      have hs2 := strip_eq (Lib.decDigits M ++ 112 :: Lib.itoa E)
      rw [if_neg (by rw [hp]; decide), List.nil_append] at hs2
      exact hs2.symm
    · rw [if_pos rfl]
      exact strip_minus _
  unfold fparse
  rw [if_neg (no_word hmem (by decide)), if_neg (no_word hmem (by decide)), if_neg (no_word hmem (by decide)), if_neg (no_word hmem (by decide)), if_neg (no_word hmem (by decide)), hst.1, hst.2, i1, if_neg (by omega), Int.toNat_natCast, i2, i3]
  unfold fparse.fparse2
  rw [(decDigits_val M).1, p3, p4, hnear]
  have hno : ¬ (canonB (Lib.decDigits M) = false ∨ M % 2 = 0 ∨ canonB (Lib.trimPrefix (Lib.itoa E) [45]) = false ∨ (Lib.hasPrefix (Lib.itoa E) [45] = true ∧ Lib.trimPrefix (Lib.itoa E) [45] = [48])) := by
    rintro (h | h | h | h)
    · rw [decDigits_canon] at h
      cases h
    · omega
    · rw [p1] at h
      cases h
    · exact p2 h
  rw [if_neg hno, if_neg (by omega), if_neg (fun h => h.elim (by omega) c1), ← wa]

/-- Text of what Parse takes is the text -/
theorem text_fparse {l : List UInt8} (h : (fparse l).2 = 0) : ftext (fparse l).1 = l ∧ (fparse l).1 < 2 * signB := by
  unfold fparse at h ⊢
  by_cases d0 : l = [110, 97, 110]
  · rw [if_pos d0, d0]
    exact ⟨by decide, by decide⟩
  rw [if_neg d0] at h ⊢
  by_cases d1 : l = [105, 110, 102]
  · rw [if_pos d1, d1]
    refine ⟨?_, by decide⟩
    unfold ftext
    rw [if_neg (by decide), if_neg (by decide), if_pos (by decide)]
    rfl
  rw [if_neg d1] at h ⊢
  by_cases d2 : l = [45, 105, 110, 102]
  · rw [if_pos d2, d2]
    refine ⟨?_, by decide⟩
    unfold ftext
    rw [if_neg (by decide), if_pos (by decide), if_pos (by decide)]
    rfl
  rw [if_neg d2] at h ⊢
  by_cases d3 : l = [48]
  · rw [if_pos d3, d3]
    refine ⟨?_, by decide⟩
    unfold ftext
    rw [if_neg (by decide), if_neg (by decide), if_neg (by decide), if_pos (by decide)]
    rfl
  rw [if_neg d3] at h ⊢
  by_cases d4 : l = [45, 48]
  · rw [if_pos d4, d4]
    refine ⟨?_, by decide⟩
    unfold ftext
    rw [if_neg (by decide), if_pos (by decide), if_neg (by decide), if_pos (by decide)]
    rfl
  rw [if_neg d4] at h ⊢
  have hs := strip_eq l
  obtain ⟨am, ham⟩ : ∃ a, a = Lib.trimPrefix l [45] := ⟨_, rfl⟩
  obtain ⟨s, hsg⟩ : ∃ a, a = Lib.hasPrefix l [45] := ⟨_, rfl⟩
  rw [← ham, ← hsg] at h hs ⊢
  rcases index_split am 112 with ⟨i1, _⟩ | ⟨i, i1, i2, i3, i4⟩
  · rw [if_pos (by omega)] at h
    cases h
  rw [if_neg (by omega), i1, Int.toNat_natCast] at h ⊢
  rw [i3] at hs
  unfold fparse.fparse2 at h ⊢
  obtain ⟨od, hod⟩ : ∃ x, x = am.take i := ⟨_, rfl⟩
  obtain ⟨ex, hex⟩ : ∃ x, x = am.drop (i + 1) := ⟨_, rfl⟩
  rw [← hod, ← hex] at h hs ⊢
  by_cases c1 : canonB od = false ∨ dval od % 2 = 0 ∨ canonB (Lib.trimPrefix ex [45]) = false ∨ (Lib.hasPrefix ex [45] = true ∧ Lib.trimPrefix ex [45] = [48])
  · rw [if_pos c1] at h
    cases h
  rw [if_neg c1] at h ⊢
  by_cases c2 : 9007199254740992 ≤ dval od ∨ 4000 < dval (Lib.trimPrefix ex [45])
  · rw [if_pos c2] at h
    cases h
  rw [if_neg c2] at h ⊢
  by_cases c3 : expOf ex < -1074 ∨ D.nearest false (dval od) (expOf ex) = infB
  · rw [if_pos c3] at h
    cases h
  rw [if_neg c3]
  have k1 : canonB od = true := by
    cases hh : canonB od with
    | true => rfl
    | false => exact absurd (.inl hh) c1
  have k2 : dval od % 2 = 1 := by
    have : ¬ dval od % 2 = 0 := fun hh => c1 (.inr (.inl hh))
    omega
  have k3 : canonB (Lib.trimPrefix ex [45]) = true := by
    cases hh : canonB (Lib.trimPrefix ex [45]) with
    | true => rfl
    | false => exact absurd (.inr (.inr (.inl hh))) c1
  have k4 : ¬ (Lib.hasPrefix ex [45] = true ∧ Lib.trimPrefix ex [45] = [48]) := fun hh => c1 (.inr (.inr (.inr hh)))
  refine ⟨(text_match hs k1 k2 (by omega) k3 k4).2 ⟨?_, fun hh => c3 (.inr hh)⟩, ?_⟩
  · have : ¬ expOf ex < -1074 := fun hh => c3 (.inl hh)
    omega
  · exact word_lt2 s (Nat.lt_of_le_of_lt (nearest_le _ _) (by decide))
end Go.Proofs.YtdkencepmdfacaaGreatDoor
