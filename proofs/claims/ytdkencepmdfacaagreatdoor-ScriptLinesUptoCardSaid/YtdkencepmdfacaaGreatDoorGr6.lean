/- Steps' lines (plain): there and back. Scripts (plain): a step's line there and back; a script's text printed, read, there and back. -/
import Derived.Test.YtdkencepmdfacaaGreatDoorGr3
import Derived.Test.YtdkencepmdfacaaGreatDoorGr5
set_option maxRecDepth 100000
namespace Go.Proofs.YtdkencepmdfacaaGreatDoor
open Ieee

/-! ### numbers -/
theorem sdval_ge : ∀ (l : List UInt8) (a : Nat), a ≤ dvalFrom a l
  | [], a => Nat.le_refl _
  | c :: l, a => by
    have := sdval_ge l (10 * a + (c.toNat - 48))
    show a ≤ dvalFrom (10 * a + (c.toNat - 48)) l
    omega
theorem parse_digits : ∀ (l : List UInt8) (a : Nat), l.all isDig = true → dvalFrom a l < 18446744073709551616 → Lib.parseUint10 a l = .ok (dvalFrom a l)
  | [], a, _, _ => rfl
  | c :: l, a, h, hv => by
    rw [List.all_cons, Bool.and_eq_true] at h
    have hc := dig_range h.1
    have hv' : dvalFrom (10 * a + (c.toNat - 48)) l < 18446744073709551616 := hv
    have hge := sdval_ge l (10 * a + (c.toNat - 48))
    rw [Lib.parseUint10, if_pos (by omega), if_neg (by omega), if_neg (by omega)]
    have e : a * 10 + (c.toNat - 48) = 10 * a + (c.toNat - 48) := by omega
    rw [e]
    exact parse_digits l _ h.2 hv'
theorem parse_dec {n : Nat} (h : n < 18446744073709551616) : Lib.parseMag (Lib.decDigits n) = .ok n := by
  have hv := decDigits_val n
  have hne : Lib.decDigits n ≠ [] := by
    intro e
    have := Lib.decDigits_length n
    rw [e] at this
    have h2 := Lib.nDigits_pos n
    simp at this
    omega
  unfold Lib.parseMag
  rw [if_neg hne, parse_digits _ _ hv.2 (by show dval (Lib.decDigits n) < _; rw [hv.1]; exact h)]
  congr 1
  exact hv.1
theorem dec_head {n : Nat} : ∃ c r, Lib.decDigits n = c :: r ∧ 48 ≤ c.toNat ∧ c.toNat ≤ 57 := by
  have hv := (decDigits_val n).2
  cases h : Lib.decDigits n with
  | nil =>
    have := Lib.decDigits_length n
    rw [h] at this
    have h2 := Lib.nDigits_pos n
    simp at this
    omega
  | cons c r =>
    rw [h, List.all_cons, Bool.and_eq_true] at hv
    exact ⟨c, r, rfl, dig_range hv.1⟩
theorem atoi_of_itoa {n : Int} (h : w64 n) : Lib.atoiAll (Lib.itoa n) = .ok n := by
  unfold w64 at h
  by_cases hn : n < 0
  · have e : Lib.itoa n = 45 :: Lib.decDigits n.natAbs := by unfold Lib.itoa; rw [if_pos hn]
    rw [e]
    unfold Lib.atoiAll
    simp only
    rw [if_pos (.inr rfl), parse_dec (by omega)]
    simp only
    rw [if_neg (fun hh => hh.1 rfl), if_neg (by omega), if_pos (show UInt8.toNat 45 = 45 from rfl)]
    congr 1
    omega
  · have e : Lib.itoa n = Lib.decDigits n.toNat := by unfold Lib.itoa; rw [if_neg hn]
    obtain ⟨c, r, hd, c1, c2⟩ := dec_head (n := n.toNat)
    rw [e]
    have hm := parse_dec (n := n.toNat) (by omega)
    rw [hd] at hm ⊢
    unfold Lib.atoiAll
    simp only
    rw [if_neg (by omega), hm]
    simp only
    rw [if_neg (by omega), if_neg (by omega), if_neg (by omega)]
    congr 1
    omega
theorem numZ_itoa {n : Int} (h : w64 n) : numZ (Lib.itoa n) = some n := by
  unfold numZ
  rw [atoi_of_itoa h]
  simp
theorem atoi_wf {l : List UInt8} {v : Int} (h : Lib.atoiAll l = .ok v) : w64 v := by
  unfold Lib.atoiAll at h
  unfold w64
  split at h
  · cases h
  · simp only at h
    split at h
    · cases h
    · cases h
    · split at h
      · cases h
      · split at h
        · cases h
        · injection h with h
          split at h <;> omega
theorem numZ_some {s : List UInt8} {n : Int} (h : numZ s = some n) : Lib.itoa n = s ∧ w64 n := by
  unfold numZ at h
  split at h
  · rename_i v hv
    split at h
    · rename_i h1
      injection h with h
      subst h
      exact ⟨h1, atoi_wf hv⟩
    · cases h
  · cases h
theorem itoa_clean (n : Int) : ∀ c ∈ Lib.itoa n, c ≠ 32 ∧ c ≠ 10 := by
  intro c hc
  unfold Lib.itoa at hc
  split at hc
  · rcases List.mem_cons.1 hc with rfl | hc
    · decide
    · exact dec_clean _ c hc
  · exact dec_clean _ c hc
/-! ### kinds -/
theorem kind_cases {o : Nat} (h0 : 1 ≤ o) (h1 : o ≤ 12) : kindOf (stWord o) = o ∧ (∀ c ∈ stWord o, c ≠ 32 ∧ c ≠ 10) ∧ stWord o ≠ [115, 117, 98, 109, 105, 116] := by
  have key : ∀ o : Fin 13, 1 ≤ o.val → kindOf (stWord o.val) = o.val ∧ (stWord o.val).all (fun c => decide (c ≠ 32) && decide (c ≠ 10)) = true ∧ stWord o.val ≠ [115, 117, 98, 109, 105, 116] := by decide +kernel
  obtain ⟨a, b, c⟩ := key ⟨o, by omega⟩ h0
  refine ⟨a, fun d hd => ?_, c⟩
  have := List.all_eq_true.1 b d hd
  simpa using this
theorem kindOf_some {w : List UInt8} {o : Nat} (h : kindOf w = o) (h0 : o ≠ 0) : stWord o = w ∧ 1 ≤ o ∧ o ≤ 12 := by
  unfold kindOf at h
  cases hf : (List.range 13).find? fun o => decide (0 < o) && decide (stWord o = w) with
  | none =>
    rw [hf] at h
    exact absurd h.symm h0
  | some k =>
    rw [hf] at h
    replace h : k = o := h
    subst h
    have h1 := List.find?_some hf
    have h2 := List.mem_of_find?_eq_some hf
    simp at h1 h2
    exact ⟨h1.2, h1.1, by omega⟩
structure Stp.Wf (s : Stp) : Prop where
  ok : s.okKind
  a : w64 s.a
  k : w64 s.k
  x : w64 s.x
theorem words_clean2 {s : Stp} (h : s.okKind) : ∀ w ∈ s.words, ∀ c ∈ w, c ≠ 32 ∧ c ≠ 10 := by
  intro w hw c hc
  unfold Stp.words at hw
  rcases List.mem_cons.1 hw with rfl | hw
  · exact (kind_cases (o := s.kind.toNat) (by have := h.1; omega) (by have := h.2.1; omega)).2.1 c hc
  rcases List.mem_append.1 hw with hw | hw
  · obtain ⟨n, _, rfl⟩ := List.mem_map.1 hw
    exact itoa_clean n c hc
  · split at hw
    · rw [List.mem_singleton] at hw
      subst hw
      exact hexT_clean _ c hc
    · cases hw
theorem spl_words {s : Stp} (h : s.okKind) : spl 32 (joinW 32 s.words) = s.words :=
  spl_joined _ (by unfold Stp.words; simp) fun w hw hm => (words_clean2 h w hw 32 hm).1 rfl
theorem words_len2 (s : Stp) : s.words.length = stMany s.kind := by
  unfold Stp.words Stp.nums stMany fieldsN
  cases stA s.kind <;> cases stK s.kind <;> cases stX s.kind <;> cases stT s.kind <;> simp
theorem wf_zero : w64 0 := by unfold w64; omega
/-- the fields of a step's own words -/
theorem fields_words {s : Stp} (h : s.Wf) : readFields s.words s.kind = some s := by
  have ho := h.ok.2.2
  obtain ⟨kd, a, k, x, t⟩ := s
  have ha := numZ_itoa h.a
  have hk := numZ_itoa h.k
  have hx := numZ_itoa h.x
  unfold Stp.only at ho
  simp only at ho ha hk hx
  have e1 : stA kd = false → a = 0 := fun hh => by rw [hh] at ho; injection ho with _ h1; simpa using h1.symm
  have e2 : stK kd = false → k = 0 := fun hh => by rw [hh] at ho; injection ho with _ _ h1; simpa using h1.symm
  have e3 : stX kd = false → x = 0 := fun hh => by rw [hh] at ho; injection ho with _ _ _ h1; simpa using h1.symm
  have e4 : stT kd = false → t = [] := fun hh => by rw [hh] at ho; injection ho with _ _ _ _ h1; simpa using h1.symm
  unfold readFields fieldAt Stp.words Stp.nums fieldsN
  cases hA : stA kd <;> cases hK : stK kd <;> cases hX : stX kd <;> cases hT : stT kd <;> simp_all [rawT_hex]
theorem words_fields {w : List (List UInt8)} {o : Nat} (h0 : 1 ≤ o) (h1 : o ≤ 12) (hl : w.length = stMany o) (hw : w.headD [] = stWord o) {s : Stp} (h : readFields w o = some s) : s.words = w ∧ s.kind = o ∧ s.Wf := by
  unfold readFields fieldAt fieldsN at h
  have hk12 : (1 : Int) ≤ (o : Int) ∧ (o : Int) ≤ 12 := by omega
  have fin : ∀ (a k x : Int) (t : List UInt8), s = ⟨o, a, k, x, t⟩ → (stA o = false → a = 0) → (stK o = false → k = 0) → (stX o = false → x = 0) → (stT o = false → t = []) → w64 a → w64 k → w64 x → s.kind = o ∧ s.Wf := fun a k x t e z1 z2 z3 z4 w1 w2 w3 => by
    subst e
    refine ⟨rfl, ⟨hk12.1, hk12.2, ?_⟩, w1, w2, w3⟩
    unfold Stp.only
    simp only
    congr 1
    · cases hA : stA o
      · simp [z1 hA]
      · simp
    · cases hA : stK o
      · simp [z2 hA]
      · simp
    · cases hA : stX o
      · simp [z3 hA]
      · simp
    · cases hA : stT o
      · simp [z4 hA]
      · simp
  obtain ⟨a, ha, h⟩ := Option.bind_eq_some_iff.1 h
  obtain ⟨k, hk, h⟩ := Option.bind_eq_some_iff.1 h
  obtain ⟨x, hx, h⟩ := Option.bind_eq_some_iff.1 h
  obtain ⟨t, ht, h⟩ := Option.map_eq_some_iff.1 h
  have na : (stA o = true → numZ (w.getD 1 []) = some a) ∧ (stA o = false → a = 0) := by
    cases hA : stA o <;> rw [hA] at ha <;> simp_all
  have nk : (stK o = true → numZ (w.getD (1 + (if stA o = true then 1 else 0)) []) = some k) ∧ (stK o = false → k = 0) := by
    cases hK : stK o <;> rw [hK] at hk <;> simp_all
  have nx : (stX o = true → numZ (w.getD (1 + (if stA o = true then 1 else 0) + (if stK o = true then 1 else 0)) []) = some x) ∧ (stX o = false → x = 0) := by
    cases hX : stX o <;> rw [hX] at hx <;> simp_all
  have nt : (stT o = true → rawT (w.getD (1 + ((if stA o = true then 1 else 0) + (if stK o = true then 1 else 0) + (if stX o = true then 1 else 0))) []) = some t) ∧ (stT o = false → t = []) := by
    cases hT : stT o <;> rw [hT] at ht <;> simp_all
  clear ha hk hx ht
  have wa : w64 a := by
    cases hA : stA o
    · rw [na.2 hA]; exact wf_zero
    · exact (numZ_some (na.1 hA)).2
  have wk : w64 k := by
    cases hA : stK o
    · rw [nk.2 hA]; exact wf_zero
    · exact (numZ_some (nk.1 hA)).2
  have wx : w64 x := by
    cases hA : stX o
    · rw [nx.2 hA]; exact wf_zero
    · exact (numZ_some (nx.1 hA)).2
  refine ⟨?_, fin a k x t h.symm na.2 nk.2 nx.2 nt.2 wa wk wx⟩
  subst h
  unfold Stp.words Stp.nums
  unfold stMany fieldsN at hl
  simp only [Int.toNat_natCast]
  clear fin wa wk wx
  cases hA : stA o <;> cases hK : stK o <;> cases hX : stX o <;> cases hT : stT o <;> simp only [hA, hK, hX, hT, if_true, if_false, Bool.false_eq_true, Nat.add_zero, Nat.zero_add, true_implies, false_implies, reduceCtorEq] at hl na nk nx nt
  all_goals
    rcases w with _ | ⟨w0, _ | ⟨w1, _ | ⟨w2, _ | ⟨w3, _ | ⟨w4, _ | ⟨w5, w⟩⟩⟩⟩⟩⟩ <;> simp at hl
  all_goals simp only [List.headD_cons] at hw
  all_goals subst hw
  all_goals simp at na nk nx nt
  all_goals simp
  all_goals first
    | done
    | exact (numZ_some na).1
    | exact (numZ_some nk).1
    | exact (numZ_some nx).1
    | exact hex_rawT nt
    | exact ⟨(numZ_some na).1, (numZ_some nk).1⟩
    | exact ⟨(numZ_some na).1, (numZ_some nx).1⟩
    | exact ⟨(numZ_some nk).1, (numZ_some nx).1⟩
    | exact ⟨(numZ_some na).1, hex_rawT nt⟩
    | exact ⟨(numZ_some nk).1, hex_rawT nt⟩
    | exact ⟨(numZ_some nx).1, hex_rawT nt⟩
    | exact ⟨(numZ_some na).1, (numZ_some nk).1, (numZ_some nx).1⟩
    | exact ⟨(numZ_some na).1, (numZ_some nk).1, hex_rawT nt⟩
    | exact ⟨(numZ_some na).1, (numZ_some nx).1, hex_rawT nt⟩
    | exact ⟨(numZ_some nk).1, (numZ_some nx).1, hex_rawT nt⟩
    | exact ⟨(numZ_some na).1, (numZ_some nk).1, (numZ_some nx).1, hex_rawT nt⟩
end Go.Proofs.YtdkencepmdfacaaGreatDoor

set_option maxRecDepth 100000
namespace Go.Proofs.YtdkencepmdfacaaGreatDoor
open Ieee

/-! ### '; ' for a line feed -/
theorem unsemi_semi : ∀ l : List UInt8, (59 : UInt8) ∉ l → unsemi (semi l) = l
  | [], _ => rfl
  | c :: l, h => by
    have h1 : c ≠ 59 := fun e => h (by simp [e])
    have h2 : (59 : UInt8) ∉ l := fun e => h (by simp [e])
    have ih := unsemi_semi l h2
    by_cases hc : c = 10
    · subst hc
      show unsemi (59 :: 32 :: semi l) = _
      rw [unsemi, if_pos ⟨rfl, rfl⟩, ih]
    · have e : semi (c :: l) = c :: semi l := by
        show (if c = 10 then [59, 32] else [c]) ++ semi l = _
        rw [if_neg hc]; rfl
      rw [e]
      cases hs : semi l with
      | nil =>
        rw [hs] at ih
        rw [unsemi]
        congr 1
      | cons d r =>
        rw [unsemi, if_neg (fun hh => h1 hh.1), ← hs, ih]
theorem semi_unsemi : ∀ r : List UInt8, (10 : UInt8) ∉ r → semi (unsemi r) = r
  | [], _ => rfl
  | [c], h => by
    have hc : c ≠ 10 := fun e => h (by simp [e])
    show (if c = 10 then [59, 32] else [c]) ++ [] = _
    rw [if_neg hc]; rfl
  | c :: d :: r, h => by
    have hc : c ≠ 10 := fun e => h (by simp [e])
    have hr : (10 : UInt8) ∉ r := fun e => h (by simp [e])
    have hdr : (10 : UInt8) ∉ d :: r := fun e => h (List.mem_cons_of_mem _ e)
    rw [unsemi]
    split
    · rename_i h1
      have ih := semi_unsemi r hr
      show (if (10 : UInt8) = 10 then [59, 32] else [10]) ++ semi (unsemi r) = _
      rw [if_pos rfl, ih, h1.1, h1.2]; rfl
    · have ih := semi_unsemi (d :: r) hdr
      show (if c = 10 then [59, 32] else [c]) ++ semi (unsemi (d :: r)) = _
      rw [if_neg hc, ih]; rfl
theorem dec_59 (n : Nat) : ∀ c ∈ Lib.decDigits n, c ≠ 59 := fun c hc => by
  have h := List.all_eq_true.1 (decDigits_val n).2 c hc
  have := dig_range h
  intro e
  subst e
  revert this; decide
theorem words_59 {x : Ins} (h : x.Full) : ∀ w ∈ x.words, (59 : UInt8) ∉ w := by
  intro w hw hc
  unfold Ins.words at hw
  have h2 := h.op
  have hop : ∀ o : Fin 25, (opText o.val).all (fun c => decide (c ≠ 59)) = true := by decide +kernel
  rcases List.mem_cons.1 hw with rfl | hw
  · have := List.all_eq_true.1 (hop ⟨x.op.toNat, by omega⟩) 59 hc
    simp at this
  rcases List.mem_append.1 hw with hw | hw
  · obtain ⟨i, _, rfl⟩ := List.mem_map.1 hw
    unfold regW at hc
    rcases List.mem_cons.1 hc with hc | hc
    · exact absurd hc (by decide)
    · exact dec_59 _ 59 hc rfl
  · unfold Ins.lastW at hw
    split at hw
    · simp at hw
      subst hw
      exact dec_59 _ 59 hc rfl
    split at hw
    · simp at hw
      subst hw
      unfold ftext at hc
      split at hc
      · simp at hc
      · rcases List.mem_append.1 hc with hc | hc
        · split at hc
          · simp at hc
          · cases hc
        · split at hc
          · simp at hc
          split at hc
          · simp at hc
          rcases List.mem_append.1 hc with hc | hc
          · exact dec_59 _ 59 hc rfl
          rcases List.mem_cons.1 hc with hc | hc
          · exact absurd hc (by decide)
          unfold Lib.itoa at hc
          split at hc
          · rcases List.mem_cons.1 hc with hc | hc
            · exact absurd hc (by decide)
            · exact dec_59 _ 59 hc rfl
          · exact dec_59 _ 59 hc rfl
    · cases hw
theorem join_59 : ∀ ws : List (List UInt8), (∀ w ∈ ws, (59 : UInt8) ∉ w) → (59 : UInt8) ∉ joinW 32 ws
  | [], _ => by simp [joinW]
  | [w], h => h w (by simp)
  | w :: v :: ws, h => by
    rw [join_cons (by simp)]
    intro hm
    rcases List.mem_append.1 hm with hm | hm
    · exact h w (by simp) hm
    · rcases List.mem_cons.1 hm with hm | hm
      · exact absurd hm (by decide)
      · exact join_59 (v :: ws) (fun u hu => h u (List.mem_cons_of_mem _ hu)) hm
theorem text_59 {fuel : Nat} {l : List Ins} (h : (progCheck fuel l).1 = 0) (hk : ∀ x ∈ l, x.k < 2 * signB) : (59 : UInt8) ∉ progText fuel l := by
  have hf := prog_full h hk
  unfold progText linesT
  intro hm
  rcases List.mem_append.1 hm with hm | hm
  · rcases List.mem_append.1 hm with hm | hm
    · revert hm; decide
    · exact dec_59 _ 59 hm rfl
  · rcases List.mem_cons.1 hm with hm | hm
    · exact absurd hm (by decide)
    · obtain ⟨x, hx, hc⟩ := List.mem_flatMap.1 hm
      rcases List.mem_append.1 hc with hc | hc
      · exact join_59 _ (words_59 (hf x hx).1) hc
      · rw [List.mem_singleton] at hc
        exact absurd hc (by decide)
theorem text_end (fn : Nat) (l : List Ins) : ∃ m, progText fn l = m ++ [10] := by
  unfold progText
  rcases List.eq_nil_or_concat l with rfl | ⟨l', x, rfl⟩
  · exact ⟨fuelW ++ Lib.decDigits fn, by simp [linesT]⟩
  · refine ⟨fuelW ++ Lib.decDigits fn ++ 10 :: (linesT l' ++ x.line), ?_⟩
    unfold linesT
    simp [List.flatMap_append, List.append_assoc]
/-! ### a step's line, there and back -/
theorem take_sub (r : List UInt8) : (subW ++ r).take 7 = subW ∧ (subW ++ r).drop 7 = r := by simp [subW]
theorem sub_only {k : Int} {a kk x : Int} {t : List UInt8} (h : (Stp.mk 1 a kk x t).only = Stp.mk 1 a kk x t) : a = 0 ∧ kk = 0 ∧ x = 0 := by
  unfold Stp.only at h
  simp only at h
  injection h with _ h1 h2 h3
  exact ⟨by simpa [stA] using h1.symm, by simpa [stK] using h2.symm, by simpa [stX] using h3.symm⟩
theorem read_line {s : Stp} (h : s.Wf) : readStp s.line = some s := by
  unfold Stp.line
  by_cases hp : s.isProg
  · rw [if_pos hp]
    obtain ⟨hk, hu⟩ := hp
    obtain ⟨f, l, hul⟩ : ∃ f l, unpackP s.text = (0, f, l) := ⟨_, _, by rw [← hu]⟩
    obtain ⟨b1, b2, b3, b4⟩ := unpack_back hul
    rw [hul]
    simp only
    obtain ⟨m, hm⟩ := text_end f l
    have h59 : (59 : UInt8) ∉ m := fun e => text_59 b2 b3 (by rw [hm]; exact List.mem_append_left _ e)
    unfold readStp
    rw [if_pos (take_sub _).1, (take_sub _).2, hm, List.dropLast_concat]
    have e : unsemi (semi m) ++ [10] = progText f l := by rw [unsemi_semi m h59, hm]
    unfold readSub
    rw [e, parse_print b2 b3, if_pos rfl]
    simp only
    obtain ⟨kd, a, k, x, t⟩ := s
    simp only at hk b1
    subst hk
    obtain ⟨z1, z2, z3⟩ := sub_only (k := 0) h.ok.2.2
    rw [b1, z1, z2, z3]
  · rw [if_neg hp]
    have hs := spl_words h.ok
    have hk1 := h.ok.1
    have hk2 := h.ok.2.1
    have hkc := kind_cases (o := s.kind.toNat) (by omega) (by omega)
    have hkn : ((s.kind.toNat : Nat) : Int) = s.kind := by omega
    unfold readStp
    rw [if_neg, hs]
    · unfold readWords
      have hh : s.words.headD [] = stWord s.kind.toNat := by unfold Stp.words; rfl
      rw [hh, hkc.1, if_neg, hkn, fields_words h]
      · simp only [Option.bind_some]
        rw [if_neg hp]
      · rintro (e | e)
        · omega
        · rw [hkn] at e
          exact e (words_len2 s)
    · intro e
      have e2 : joinW 32 s.words = [115, 117, 98, 109, 105, 116] ++ 32 :: (joinW 32 s.words).drop 7 := by
        conv => lhs; rw [← List.take_append_drop 7 (joinW 32 s.words), e]
        rfl
      have e3 := hs
      rw [e2, spl_app _ (by decide)] at e3
      have e4 : s.words.headD [] = [115, 117, 98, 109, 105, 116] := by rw [← e3]; rfl
      exact hkc.2.2 e4
theorem line_read {t : List UInt8} {s : Stp} (h : readStp t = some s) (hno : (10 : UInt8) ∉ t) : s.line = t ∧ s.Wf := by
  unfold readStp at h
  split at h
  · rename_i hsub
    have ht : t = subW ++ t.drop 7 := by conv => lhs; rw [← List.take_append_drop 7 t, hsub]
    generalize t.drop 7 = r at *
    unfold readSub at h
    split at h
    · rename_i h0
      injection h with h
      obtain ⟨er, at_, f, m, hp⟩ : ∃ er at_ f m, parseT (unsemi r ++ [10]) = (er, at_, f, m) := ⟨_, _, _, _, rfl⟩
      rw [hp] at h0 h
      simp only at h0 h
      subst h0
      obtain ⟨_, c2, c3, c4⟩ := print_parse hp
      have hup := unpack_pack c2 c4
      subst h
      refine ⟨?_, ⟨show (1 : Int) ≤ 1 from by decide, show (1 : Int) ≤ 12 from by decide, by unfold Stp.only; simp [stA, stK, stX, stT]⟩, wf_zero, wf_zero, wf_zero⟩
      unfold Stp.line
      rw [if_pos ⟨rfl, by rw [hup]⟩]
      simp only
      rw [hup]
      simp only
      rw [c3, List.dropLast_concat, semi_unsemi r (fun e => hno (by rw [ht]; exact List.mem_append_right _ e)), ← ht]
    · cases h
  · unfold readWords at h
    split at h
    · cases h
    rename_i hc
    have hc1 : kindOf ((spl 32 t).headD []) ≠ 0 := fun e => hc (.inl e)
    have hc2 : (spl 32 t).length = stMany (kindOf ((spl 32 t).headD [])) := Classical.byContradiction fun e => hc (.inr e)
    obtain ⟨k1, k2, k3⟩ := kindOf_some (w := (spl 32 t).headD []) rfl hc1
    obtain ⟨s', hs', h⟩ := Option.bind_eq_some_iff.1 h
    split at h
    · cases h
    rename_i hnp
    injection h with h
    subst h
    obtain ⟨w1, w2, w3⟩ := words_fields k2 k3 hc2 k1.symm hs'
    refine ⟨?_, w3⟩
    unfold Stp.line
    rw [if_neg hnp, w1, spl_join]
theorem line_no10 {s : Stp} (h : s.Wf) : (10 : UInt8) ∉ s.line := by
  unfold Stp.line
  by_cases hp : s.isProg
  · rw [if_pos hp]
    intro hm
    rcases List.mem_append.1 hm with hm | hm
    · revert hm; decide
    · unfold semi at hm
      obtain ⟨c, _, hc⟩ := List.mem_flatMap.1 hm
      split at hc
      · revert hc; decide
      · rename_i hn
        rw [List.mem_singleton] at hc
        exact hn hc.symm
  · rw [if_neg hp]
    have hw := words_clean2 h.ok
    have key : ∀ (ws : List (List UInt8)), (∀ w ∈ ws, ∀ c ∈ w, c ≠ 32 ∧ c ≠ 10) → (10 : UInt8) ∉ joinW 32 ws := by
      intro ws
      induction ws with
      | nil => intro _; simp [joinW]
      | cons w ws ih =>
        intro hws
        cases ws with
        | nil => exact fun hm => (hws w (by simp) 10 hm).2 rfl
        | cons v ws =>
          rw [join_cons (by simp)]
          intro hm
          rcases List.mem_append.1 hm with hm | hm
          · exact (hws w (by simp) 10 hm).2 rfl
          · rcases List.mem_cons.1 hm with hm | hm
            · exact absurd hm (by decide)
            · exact ih (fun u hu => hws u (List.mem_cons_of_mem _ hu)) hm
    exact key _ hw
end Go.Proofs.YtdkencepmdfacaaGreatDoor
