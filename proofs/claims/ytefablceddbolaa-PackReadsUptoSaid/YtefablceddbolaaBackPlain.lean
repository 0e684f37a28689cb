/- There and back, in plain lists: what is laid is read as it was, and cut short it is not. -/
import Derived.Test.YtefablceddbolaaThings
import Derived.Test.YtefablceddbolaaLay
namespace Go.Proofs.Ytefablceddbolaa

theorem rdv_vb : ∀ (j n i acc : Nat) (rest : List UInt8), n < 128 ^ (j + 1) → i ≤ 9 → n * 128 ^ i < 18446744073709551616 → (0 < i → 0 < n) → rdv i acc (vb n ++ rest) = .ok (acc + n * 128 ^ i, i + (vb n).length)
  | 0, n, i, acc, rest, hj, hi, hb, h0 => by
    have hn : n < 128 := by simpa using hj
    have hc : (UInt8.ofNat n).toNat = n := by rw [UInt8.toNat_ofNat']; omega
    rw [vb_lt hn, List.cons_append, List.nil_append, rdv, if_neg (by omega), hc, if_neg (by omega), if_neg]
    · rfl
    · rintro (⟨h1, h2⟩ | ⟨h1, h2⟩)
      · have := h0 h1; omega
      · subst h1; omega
  | j + 1, n, i, acc, rest, hj, hi, hb, h0 => by
    by_cases hn : n < 128
    · have hc : (UInt8.ofNat n).toNat = n := by rw [UInt8.toNat_ofNat']; omega
      rw [vb_lt hn, List.cons_append, List.nil_append, rdv, if_neg (by omega), hc, if_neg (by omega), if_neg]
      · rfl
      · rintro (⟨h1, h2⟩ | ⟨h1, h2⟩)
        · have := h0 h1; omega
        · subst h1; omega
    · have hc : (UInt8.ofNat (n % 128 + 128)).toNat = n % 128 + 128 := by rw [UInt8.toNat_ofNat']; omega
      have hi9 : i ≠ 9 := by rintro rfl; omega
      have hmul : (n / 128) * 128 ^ (i + 1) ≤ n * 128 ^ i := by
        rw [Nat.pow_succ, Nat.mul_comm (128 ^ i), ← Nat.mul_assoc]
        exact Nat.mul_le_mul_right _ (by omega)
      rw [vb_ge hn, List.cons_append, rdv, if_neg (by omega), hc, if_pos (by omega), rdv_vb j (n / 128) (i + 1) _ rest (by rw [Nat.div_lt_iff_lt_mul (by omega)]; rw [Nat.pow_succ] at hj; exact hj) (by omega) (by omega) (by omega)]
      have e1 : (n % 128 + 128) % 128 = n % 128 := by omega
      have e2 : n * 128 ^ i = n % 128 * 128 ^ i + n / 128 * 128 ^ (i + 1) := by
        have : n = n % 128 + n / 128 * 128 := by omega
        conv => lhs; rw [this]
        rw [Nat.add_mul, Nat.pow_succ, Nat.mul_assoc (n / 128), Nat.mul_comm 128]
      rw [e1, e2, List.length_cons, Nat.add_assoc]
      congr 2
      omega

theorem rdv_laid (n : Nat) (rest : List UInt8) (hn : n < 18446744073709551616) : rdv 0 0 (vb n ++ rest) = .ok (n, (vb n).length) := by
  have h := rdv_vb 9 n 0 0 rest (Nat.lt_trans hn (by decide)) (by omega) (by omega) (by omega)
  simpa using h

theorem rdv_cut : ∀ (j n i acc t : Nat), n < 128 ^ (j + 1) → i + (vb n).length ≤ 10 → t < (vb n).length → rdv i acc ((vb n).take t) = .error 20
  | 0, n, i, acc, t, hj, hi, ht => by
    have hn : n < 128 := by simpa using hj
    rw [vb_lt hn] at ht hi ⊢
    simp at ht hi
    subst ht
    simp [rdv]
    omega
  | j + 1, n, i, acc, t, hj, hi, ht => by
    by_cases hn : n < 128
    · rw [vb_lt hn] at ht hi ⊢
      simp at ht hi
      subst ht
      simp [rdv]
      omega
    · have hc : (UInt8.ofNat (n % 128 + 128)).toNat = n % 128 + 128 := by rw [UInt8.toNat_ofNat']; omega
      rw [vb_ge hn] at ht hi ⊢
      simp only [List.length_cons] at ht hi
      cases t with
      | zero => simp [rdv]; omega
      | succ t =>
        rw [List.take_succ_cons, rdv, if_neg (by omega), hc, if_pos (by omega)]
        exact rdv_cut j (n / 128) (i + 1) _ t (by rw [Nat.div_lt_iff_lt_mul (by omega)]; rw [Nat.pow_succ] at hj; exact hj) (by omega) (by omega)

theorem rdv_short_laid (n t : Nat) (hn : n < 18446744073709551616) (ht : t < (vb n).length) : rdv 0 0 ((vb n).take t) = .error 20 :=
  rdv_cut 9 n 0 0 t (Nat.lt_trans hn (by decide)) (by have := vb_len10 n hn; omega) ht

theorem bitsOf_bb (n : Nat) (hn : n < 18446744073709551616) : bitsOf (bb n) = n := by
  unfold bb bitsOf
  simp only [List.range, List.range.loop, List.map_cons, List.map_nil, List.foldl_cons, List.foldl_nil, UInt8.toNat_ofNat', Nat.zero_mul, Nat.zero_add]
  simp only [Nat.reduceMul, Nat.reduceSub, Nat.reducePow, Nat.mod_mod, Nat.mul_zero]
  omega

/-- a thing's form -/
def thForm (t : Th) : List UInt8 := if t.k = 1 then vb t.n else if t.k = 2 then bb t.n else tb t.s
def thForms (l : List Th) : List UInt8 := (l.map thForm).flatten

theorem str_data (l : List UInt8) : (str l).data.toList = l := rfl

theorem rd1_laid {L pre rest : List UInt8} {t : Th} (hL : L = pre ++ (thForm t ++ rest)) (hn : t.n < 18446744073709551616) (hs : t.s.length ≤ 1048576) : rd1 (str L) t pre.length 0 = (true, pre.length + (thForm t).length, 0) := by
  have hd : (str L).data.toList.drop pre.length = thForm t ++ rest := by rw [str_data, hL, List.drop_left]
  unfold rd1
  by_cases k1 : t.k = 1
  · rw [if_pos k1, hd]
    have hf : thForm t = vb t.n := by unfold thForm; rw [if_pos k1]
    rw [hf, numR_ok (rdv_laid t.n rest hn) (by omega)]
    simp [upR, rdrStep]
  · rw [if_neg k1]
    by_cases k2 : t.k = 2
    · rw [if_pos k2, hd]
      have hf : thForm t = bb t.n := by unfold thForm; rw [if_neg k1, if_pos k2]
      have h8 : 8 ≤ (bb t.n ++ rest).length := by rw [List.length_append, bb_len]; omega
      have ht : (bb t.n ++ rest).take 8 = bb t.n := by rw [List.take_append_of_le_length (by rw [bb_len]; omega), List.take_of_length_le (by rw [bb_len]; omega)]
      rw [hf, bitsR, if_pos h8, ht, bitsOf_bb _ hn]
      simp [rdrStep, bb_len]
    · rw [if_neg k2, hd]
      have hf : thForm t = vb t.s.length ++ t.s := by unfold thForm tb; rw [if_neg k1, if_neg k2]
      have hr : numR (vb t.s.length ++ t.s ++ rest) t.s.length 23 = .ok (t.s.length, (vb t.s.length).length) := by
        rw [List.append_assoc]
        exact numR_ok (rdv_laid t.s.length _ (by omega)) (Nat.le_refl _)
      rw [hf, textR, hr]
      have hfit : t.s.length + (vb t.s.length).length ≤ (vb t.s.length ++ t.s ++ rest).length := by simp only [List.length_append]; omega
      have htk : ((vb t.s.length ++ t.s ++ rest).drop (vb t.s.length).length).take t.s.length = t.s := by
        rw [List.append_assoc, List.drop_left, List.take_left]
      simp only [if_pos hfit, htk]
      simp [rdrStep]

theorem rd1_cut {L pre : List UInt8} {t : Th} {c : Nat} (hL : L = pre ++ (thForm t).take c) (hc : c < (thForm t).length) (hn : t.n < 18446744073709551616) (hs : t.s.length ≤ 1048576) : (rd1 (str L) t pre.length 0).2.2 = 20 := by
  have hd : (str L).data.toList.drop pre.length = (thForm t).take c := by rw [str_data, hL, List.drop_left]
  unfold rd1
  by_cases k1 : t.k = 1
  · rw [if_pos k1, hd]
    have hf : thForm t = vb t.n := by unfold thForm; rw [if_pos k1]
    rw [hf] at hc ⊢
    rw [numR_bad (rdv_short_laid t.n c hn hc)]
    simp [upR, rdrStep]
  · rw [if_neg k1]
    by_cases k2 : t.k = 2
    · rw [if_pos k2, hd]
      have hf : thForm t = bb t.n := by unfold thForm; rw [if_neg k1, if_pos k2]
      rw [hf] at hc ⊢
      rw [bb_len] at hc
      rw [bitsR, if_neg (by rw [List.length_take, bb_len]; omega)]
      simp [rdrStep]
    · rw [if_neg k2, hd]
      have hf : thForm t = vb t.s.length ++ t.s := by unfold thForm tb; rw [if_neg k1, if_neg k2]
      rw [hf] at hc ⊢
      rw [List.length_append] at hc
      by_cases h1 : c < (vb t.s.length).length
      · rw [List.take_append_of_le_length (by omega), textR, numR_bad (rdv_short_laid t.s.length c (by omega) h1)]
        simp [rdrStep]
      · have htk : (vb t.s.length ++ t.s).take c = vb t.s.length ++ t.s.take (c - (vb t.s.length).length) := by
          rw [List.take_append, List.take_of_length_le (by omega)]
        rw [htk, textR, numR_ok (rdv_laid t.s.length _ (by omega)) (Nat.le_refl _)]
        have hno : ¬ t.s.length + (vb t.s.length).length ≤ (vb t.s.length ++ t.s.take (c - (vb t.s.length).length)).length := by
          simp only [List.length_append, List.length_take]
          omega
        simp only [if_neg hno, rdrStep, ne_eq, not_true_eq_false, if_false]

theorem rdAll_laid : ∀ (ts : List Th) (L pre : List UInt8), L = pre ++ thForms ts → (∀ t ∈ ts, t.n < 18446744073709551616 ∧ t.s.length ≤ 1048576) → rdAll (str L) ts (pre.length, 0, true) = (L.length, 0, true)
  | [], L, pre, hL, _ => by
    rw [hL]
    simp [rdAll, thForms]
  | t :: ts, L, pre, hL, hts => by
    have h := hts t (List.mem_cons_self ..)
    have hL2 : L = pre ++ (thForm t ++ thForms ts) := by rw [hL]; simp [thForms]
    rw [rdAll, rd1_laid hL2 h.1 h.2]
    have := rdAll_laid ts L (pre ++ thForm t) (by rw [hL2, List.append_assoc]) (fun x hx => hts x (List.mem_cons_of_mem _ hx))
    rw [List.length_append] at this
    exact this

theorem rd1_fault {b : ByteArray} {t : Th} {p : Nat} {e : Int} (he : e ≠ 0) : (rd1 b t p e).2 = (p, e) := by
  unfold rd1
  split
  · rw [rdrStep_fault he]
  · split
    · rw [rdrStep_fault he]
    · rw [rdrStep_fault he]

theorem rdAll_fault {b : ByteArray} {e : Int} (he : e ≠ 0) : ∀ (ts : List Th) (p : Nat) (ok : Bool), (rdAll b ts (p, e, ok)).2.1 = e
  | [], p, ok => rfl
  | t :: ts, p, ok => by
    rw [rdAll]
    have h := rd1_fault (b := b) (t := t) (p := p) he
    rw [h]
    exact rdAll_fault he ts p _

theorem rdAll_cut : ∀ (ts : List Th) (pre : List UInt8) (cut : Nat) (ok : Bool), pre.length ≤ cut → cut < (pre ++ thForms ts).length → (∀ t ∈ ts, t.n < 18446744073709551616 ∧ t.s.length ≤ 1048576) →
    (rdAll (str ((pre ++ thForms ts).take cut)) ts (pre.length, 0, ok)).2.1 = 20
  | [], pre, cut, ok, h1, h2, _ => by
    simp [thForms] at h2
    omega
  | t :: ts, pre, cut, ok, h1, h2, hts => by
    have h := hts t (List.mem_cons_self ..)
    have e : pre ++ thForms (t :: ts) = (pre ++ thForm t) ++ thForms ts := by simp [thForms]
    rw [rdAll]
    by_cases hc : pre.length + (thForm t).length ≤ cut
    · have hM : (pre ++ thForms (t :: ts)).take cut = pre ++ (thForm t ++ (thForms ts).take (cut - (pre ++ thForm t).length)) := by
        rw [e, List.take_append, List.take_of_length_le (by rw [List.length_append]; omega), List.append_assoc]
      have hr := rd1_laid hM h.1 h.2
      rw [hr]
      have := rdAll_cut ts (pre ++ thForm t) cut (true && ok) (by rw [List.length_append]; exact hc) (by rw [← e]; exact h2) (fun x hx => hts x (List.mem_cons_of_mem _ hx))
      rw [List.length_append, ← e] at this
      exact this
    · have hM : (pre ++ thForms (t :: ts)).take cut = pre ++ (thForm t).take (cut - pre.length) := by
        rw [e, List.take_append_of_le_length (by rw [List.length_append]; omega), List.take_append, List.take_of_length_le h1]
      have hr := rd1_cut hM (by omega) h.1 h.2
      rw [hr]
      exact rdAll_fault (by decide) ts _ _
end Go.Proofs.Ytefablceddbolaa
