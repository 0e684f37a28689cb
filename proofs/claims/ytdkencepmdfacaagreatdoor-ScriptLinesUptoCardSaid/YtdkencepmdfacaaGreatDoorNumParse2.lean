/- Package num's Parse (contract): of any text of fewer than 2^30 bytes it answers 'fparse'. -/
import Derived.Test.YtdkencepmdfacaaGreatDoorGr8
set_option maxRecDepth 100000
namespace Go.Proofs.YtdkencepmdfacaaGreatDoor
open Go.RowKit Ieee

theorem str_toList (l : List UInt8) : (strOf l).toList = l := by
  rw [ByteArray.toList_eq]
theorem raw_grew (b : Nat) (w : World) : Calls Tryz.prog 174 #[.float .f64 b] w fun e w' => e = .returned (.int .u64 ((fcan b : Nat) : Int)) ∧ Below w.heap.size w w' := told_grew (raw_any b) w
theorem digits_is (l : List UInt8) (hs : l.length < 1073741824) (w : World) : Calls Tryz.prog 182 #[.string (strOf l)] w fun e w' => e = .returned (.bool (canonB l)) ∧ Below w.heap.size w w' := by
  have h := digits_any (strOf l) (by rw [ba_size]; exact hs) w
  rw [digitsB_is, list_str] at h
  exact h
theorem odd_last : ∀ (c : UInt8), isDig c = true → ((Lib.indexByte [49, 51, 53, 55, 57] c < 0) ↔ c.toNat % 2 = 0) := by
  intro c h
  have hr := dig_range h
  have hall : ∀ n, n < 10 → ((Lib.indexByte [49, 51, 53, 55, 57] (UInt8.ofNat (48 + n)) < 0) ↔ (48 + n) % 2 = 0) := by decide
  have := hall (c.toNat - 48) (by omega)
  rw [show 48 + (c.toNat - 48) = c.toNat by omega, UInt8.ofNat_toNat] at this
  exact this
theorem last_split {l : List UInt8} (h : canonB l = true) : ∃ m c, l = m ++ [c] ∧ isDig c = true ∧ (dval l % 2 = c.toNat % 2) := by
  rcases List.eq_nil_or_concat l with e | ⟨m, c, e⟩
  · exact absurd e (canon_digs h).2
  · rw [List.concat_eq_append] at e
    subst e
    have hd := (canon_digs h).1
    rw [List.all_append, Bool.and_eq_true] at hd
    have hcd : isDig c = true := by simpa using hd.2
    have hr := dig_range hcd
    refine ⟨m, c, rfl, hcd, ?_⟩
    rw [dval_snoc]
    omega
theorem last_index (m : List UInt8) (c : UInt8) (w : World) : (Instr.index 9 (.string (strOf (m ++ [c]))) (.int .i64 (((strOf (m ++ [c])).size : Int) - 1))).run Tryz.prog w = .ok (.int .u8 ((c.toNat : Nat) : Int)) w := by
  have hsz : (strOf (m ++ [c])).size = m.length + 1 := by rw [ba_size]; simp
  have e1 : ((strOf (m ++ [c])).size : Int) - 1 = (m.length : Int) := by rw [hsz]; omega
  rw [e1, run_index_string w 9 (strOf (m ++ [c])) .i64 (m.length : Int) Tryz.underlying9, dif_pos ⟨by omega, by rw [hsz]; omega⟩]
  congr 3
  have h2 : (strOf (m ++ [c]))[((m.length : Nat) : Int).toNat]'(by rw [Int.toNat_natCast, hsz]; omega) = (m ++ [c])[m.length]'(by simp) := by
    simp [ByteArray.getElem_eq_getElem_data]
  rw [h2]
  simp
theorem trim_len (l : List UInt8) : (Lib.trimPrefix l [45]).length ≤ l.length := by
  unfold Lib.trimPrefix
  split
  · simp
  · exact Nat.le_refl _
theorem atoi_ok {c : UInt8} {r : List UInt8} {u : Nat} (h : Lib.parseMag (if c.toNat = 43 ∨ c.toNat = 45 then r else c :: r) = .ok u) : Lib.atoiAll (c :: r) = if ¬ c.toNat = 45 ∧ 9223372036854775808 ≤ u then .range else if c.toNat = 45 ∧ 9223372036854775808 < u then .range else .ok (if c.toNat = 45 then -((u : Nat) : Int) else ((u : Nat) : Int)) := by
  unfold Lib.atoiAll
  simp only [h]
theorem atoi_range {c : UInt8} {r : List UInt8} (h : Lib.parseMag (if c.toNat = 43 ∨ c.toNat = 45 then r else c :: r) = .range) : Lib.atoiAll (c :: r) = .range := by
  unfold Lib.atoiAll
  simp only [h]
theorem atoi_of {ex : List UInt8} (hc : canonB (Lib.trimPrefix ex [45]) = true) : (Lib.atoiAll ex = .ok (expOf ex)) ∨ (Lib.atoiAll ex = .range ∧ 4000 < dval (Lib.trimPrefix ex [45])) := by
  have hs := strip_eq ex
  obtain ⟨e, he⟩ : ∃ e, e = Lib.trimPrefix ex [45] := ⟨_, rfl⟩
  have hd := canon_digs hc
  unfold expOf
  rw [← he] at hc hd hs ⊢
  have hmag : Lib.parseMag e = if dval e < 18446744073709551616 then .ok (dval e) else .range := by
    unfold Lib.parseMag
    rw [if_neg hd.2]
    exact parseUint10_dig e 0 hd.1 (by decide)
  by_cases k : Lib.hasPrefix ex [45] = true
  · rw [if_pos k] at hs ⊢
    rw [hs]
    show Lib.atoiAll (45 :: e) = _ ∨ (Lib.atoiAll (45 :: e) = _ ∧ _)
    by_cases c : dval e < 18446744073709551616
    · rw [atoi_ok (c := 45) (r := e) (u := dval e) (by rw [if_pos (by decide), hmag, if_pos c]), if_neg (fun h => h.1 (by decide))]
      by_cases c2 : 9223372036854775808 < dval e
      · rw [if_pos ⟨by decide, c2⟩]
        exact .inr ⟨rfl, by omega⟩
      · rw [if_neg (fun h => c2 h.2), if_pos (by decide)]
        exact .inl rfl
    · exact .inr ⟨atoi_range (c := 45) (r := e) (by rw [if_pos (by decide), hmag, if_neg c]), by omega⟩
  · rw [if_neg k, List.nil_append] at hs
    rw [if_neg k, hs]
    cases he2 : e with
    | nil => exact absurd he2 hd.2
    | cons c r =>
      have hdc := hd.1
      rw [he2, List.all_cons, Bool.and_eq_true] at hdc
      have hr := dig_range hdc.1
      have hn : ¬ (c.toNat = 43 ∨ c.toNat = 45) := by omega
      have hn2 : ¬ c.toNat = 45 := by omega
      rw [he2] at hmag
      by_cases c1 : dval (c :: r) < 18446744073709551616
      · rw [atoi_ok (c := c) (r := r) (u := dval (c :: r)) (by rw [if_neg hn, hmag, if_pos c1])]
        by_cases c2 : 9223372036854775808 ≤ dval (c :: r)
        · rw [if_pos ⟨hn2, c2⟩]
          exact .inr ⟨rfl, by omega⟩
        · rw [if_neg (fun h => c2 h.2), if_neg (fun h => hn2 h.1), if_neg hn2]
          exact .inl rfl
      · exact .inr ⟨atoi_range (c := c) (r := r) (by rw [if_neg hn, hmag, if_neg c1]), by omega⟩
/-- the float of a whole amount that is odd, and what Ldexp makes of it -/
theorem float_odd {m : Nat} (ho : m % 2 = 1) (h53 : m < 9007199254740992) : ∃ r, floatOfInt .f64 ((m : Nat) : Int) = r ∧ 4503599627370496 ≤ r ∧ r < infB ∧ ∀ n, ldx r n = D.nearest false m n := by
  have hl : m.log2 ≤ 52 := by
    have := (Nat.log2_lt (k := 53) (show m ≠ 0 by omega)).2 (show m < 2 ^ 53 from h53)
    omega
  obtain ⟨r, r1, r2, r3, r4, r5⟩ := nearest_exact (n := 0) ho h53 (by decide) (by omega)
  have h1 : fcan (floatOfInt .f64 ((m : Nat) : Int)) = r := by
    rw [of_is]
    unfold fof
    rw [decide_eq_false (by omega)]
    exact r1
  have h2 := fcan_eq h1 (inf_ne_nan (Nat.le_of_lt r2))
  obtain ⟨q1, q2, q3⟩ := odd_split r3
  rw [r4] at q1
  unfold oddE at r5
  refine ⟨r, h2, ?_, r2, fun n => ?_⟩
  · rcases Nat.lt_or_ge r 4503599627370496 with h | h
    · exfalso
      have := (mant_small h).2
      omega
    · exact h
  · unfold ldx
    rw [q1]
    exact nearest_scale false (by omega) (by omega)

set_option maxHeartbeats 8000000 in
set_option maxRecDepth 100000 in
theorem parse_any {l : List UInt8} (hs : l.length < 1073741824) (w : World) (ht : TabsAt w) (hE : ErrAt w) :
    Calls Tryz.prog 171 #[.string (strOf l)] w fun e w' => e = .returned (.tuple #[.int .u64 (((fparse l).1 : Nat) : Int), .int .i64 (fparse l).2]) ∧ Below w.heap.size w w' := by
  have hG := Lib.hid (Below.refl w.heap.size w)
  have HT := Lib.hid ht
  have HE := Lib.hid hE
  clear ht hE
  have kraw := raw_grew
  have hF : fparse l = if l = [110, 97, 110] then (nanB, 0) else if l = [105, 110, 102] then (infB, 0) else if l = [45, 105, 110, 102] then (18442240474082181120, 0) else if l = [48] then (0, 0) else if l = [45, 48] then (9223372036854775808, 0) else if Lib.indexByte (Lib.trimPrefix l [45]) 112 < 0 then (0, 10) else fparse.fparse2 (Lib.hasPrefix l [45]) ((Lib.trimPrefix l [45]).take (Lib.indexByte (Lib.trimPrefix l [45]) 112).toNat) ((Lib.trimPrefix l [45]).drop ((Lib.indexByte (Lib.trimPrefix l [45]) 112).toNat + 1)) := rfl
  obtain ⟨V, hV⟩ : ∃ V, V = fparse l := ⟨_, rfl⟩
  rw [← hV] at hF ⊢
  clear hV
  obtain ⟨S, hS⟩ : ∃ S, S = strOf l := ⟨_, rfl⟩
  rw [← hS]

  by_cases d0 : l = [110, 97, 110]
  · rw [if_pos d0] at hF
    have hS2 : S = { data := #[110, 97, 110] } := by rw [hS, d0]
    subst hS2
    have hfn : fcan nanB = nanB := by decide
    have hfi : fcan infB = infB := by decide
    have hfm : fcan 18442240474082181120 = 18442240474082181120 := by decide
    have kn := kraw 9221120237041090561
    have kp := kraw 9218868437227405312
    have km := kraw 18442240474082181120
    rw [hfm] at km
    rw [show fcan 9221120237041090561 = 9221120237041090561 from hfn] at kn
    rw [show fcan 9218868437227405312 = 9218868437227405312 from hfi] at kp
    have hfb := frombits_run
    clear hS  d0 hs HT HE kraw hfn hfi hfm
    go_enter Tryz.func171, Tryz.ntmps171
    go_wp2_with (first | (go_at_call 181; go_in) | (go_at_call 177; go_in) | (go_at_call 174; first | (with_reducible (refine (kn _).mono ?_); rintro _ _ ⟨rfl, hb⟩; replace hG := Lib.hid (grow_trans hG.out hb); clear hb) | (with_reducible (refine (kp _).mono ?_); rintro _ _ ⟨rfl, hb⟩; replace hG := Lib.hid (grow_trans hG.out hb); clear hb) | (with_reducible (refine (km _).mono ?_); rintro _ _ ⟨rfl, hb⟩; replace hG := Lib.hid (grow_trans hG.out hb); clear hb)))
    go_ret2
    exact ⟨by rw [hF]; rfl, hG.out⟩
  rw [if_neg d0] at hF
  have n0 : (S.toList == [110, 97, 110]) = false := by
    rw [hS, str_toList]
    exact beq_eq_false_iff_ne.2 d0
  by_cases d1 : l = [105, 110, 102]
  · rw [if_pos d1] at hF
    have hS2 : S = { data := #[105, 110, 102] } := by rw [hS, d1]
    subst hS2
    have hfn : fcan nanB = nanB := by decide
    have hfi : fcan infB = infB := by decide
    have hfm : fcan 18442240474082181120 = 18442240474082181120 := by decide
    have kn := kraw 9221120237041090561
    have kp := kraw 9218868437227405312
    have km := kraw 18442240474082181120
    rw [hfm] at km
    rw [show fcan 9221120237041090561 = 9221120237041090561 from hfn] at kn
    rw [show fcan 9218868437227405312 = 9218868437227405312 from hfi] at kp
    have hfb := frombits_run
    clear hS n0 d0 d1 hs HT HE kraw hfn hfi hfm
    go_enter Tryz.func171, Tryz.ntmps171
    go_wp2_with (first | (go_at_call 181; go_in) | (go_at_call 177; go_in) | (go_at_call 174; first | (with_reducible (refine (kn _).mono ?_); rintro _ _ ⟨rfl, hb⟩; replace hG := Lib.hid (grow_trans hG.out hb); clear hb) | (with_reducible (refine (kp _).mono ?_); rintro _ _ ⟨rfl, hb⟩; replace hG := Lib.hid (grow_trans hG.out hb); clear hb) | (with_reducible (refine (km _).mono ?_); rintro _ _ ⟨rfl, hb⟩; replace hG := Lib.hid (grow_trans hG.out hb); clear hb)))
    go_ret2
    exact ⟨by rw [hF]; rfl, hG.out⟩
  rw [if_neg d1] at hF
  have n1 : (S.toList == [105, 110, 102]) = false := by
    rw [hS, str_toList]
    exact beq_eq_false_iff_ne.2 d1
  by_cases d2 : l = [45, 105, 110, 102]
  · rw [if_pos d2] at hF
    have hS2 : S = { data := #[45, 105, 110, 102] } := by rw [hS, d2]
    subst hS2
    have hfn : fcan nanB = nanB := by decide
    have hfi : fcan infB = infB := by decide
    have hfm : fcan 18442240474082181120 = 18442240474082181120 := by decide
    have kn := kraw 9221120237041090561
    have kp := kraw 9218868437227405312
    have km := kraw 18442240474082181120
    rw [hfm] at km
    rw [show fcan 9221120237041090561 = 9221120237041090561 from hfn] at kn
    rw [show fcan 9218868437227405312 = 9218868437227405312 from hfi] at kp
    have hfb := frombits_run
    clear hS n0 n1 d0 d1 d2 hs HT HE kraw hfn hfi hfm
    go_enter Tryz.func171, Tryz.ntmps171
    go_wp2_with (first | (go_at_call 181; go_in) | (go_at_call 177; go_in) | (go_at_call 174; first | (with_reducible (refine (kn _).mono ?_); rintro _ _ ⟨rfl, hb⟩; replace hG := Lib.hid (grow_trans hG.out hb); clear hb) | (with_reducible (refine (kp _).mono ?_); rintro _ _ ⟨rfl, hb⟩; replace hG := Lib.hid (grow_trans hG.out hb); clear hb) | (with_reducible (refine (km _).mono ?_); rintro _ _ ⟨rfl, hb⟩; replace hG := Lib.hid (grow_trans hG.out hb); clear hb)))
    go_ret2
    exact ⟨by rw [hF]; rfl, hG.out⟩
  rw [if_neg d2] at hF
  have n2 : (S.toList == [45, 105, 110, 102]) = false := by
    rw [hS, str_toList]
    exact beq_eq_false_iff_ne.2 d2
  by_cases d3 : l = [48]
  · rw [if_pos d3] at hF
    have hS2 : S = { data := #[48] } := by rw [hS, d3]
    subst hS2
    have hfn : fcan nanB = nanB := by decide
    have hfi : fcan infB = infB := by decide
    have hfm : fcan 18442240474082181120 = 18442240474082181120 := by decide
    have kn := kraw 9221120237041090561
    have kp := kraw 9218868437227405312
    have km := kraw 18442240474082181120
    rw [hfm] at km
    rw [show fcan 9221120237041090561 = 9221120237041090561 from hfn] at kn
    rw [show fcan 9218868437227405312 = 9218868437227405312 from hfi] at kp
    have hfb := frombits_run
    clear hS n0 n1 n2 d0 d1 d2 d3 hs HT HE kraw hfn hfi hfm
    go_enter Tryz.func171, Tryz.ntmps171
    go_wp2_with (first | (go_at_call 181; go_in) | (go_at_call 177; go_in) | (go_at_call 174; first | (with_reducible (refine (kn _).mono ?_); rintro _ _ ⟨rfl, hb⟩; replace hG := Lib.hid (grow_trans hG.out hb); clear hb) | (with_reducible (refine (kp _).mono ?_); rintro _ _ ⟨rfl, hb⟩; replace hG := Lib.hid (grow_trans hG.out hb); clear hb) | (with_reducible (refine (km _).mono ?_); rintro _ _ ⟨rfl, hb⟩; replace hG := Lib.hid (grow_trans hG.out hb); clear hb)))
    go_ret2
    exact ⟨by rw [hF]; rfl, hG.out⟩
  rw [if_neg d3] at hF
  have n3 : (S.toList == [48]) = false := by
    rw [hS, str_toList]
    exact beq_eq_false_iff_ne.2 d3
  by_cases d4 : l = [45, 48]
  · rw [if_pos d4] at hF
    have hS2 : S = { data := #[45, 48] } := by rw [hS, d4]
    subst hS2
    have hfn : fcan nanB = nanB := by decide
    have hfi : fcan infB = infB := by decide
    have hfm : fcan 18442240474082181120 = 18442240474082181120 := by decide
    have kn := kraw 9221120237041090561
    have kp := kraw 9218868437227405312
    have km := kraw 18442240474082181120
    rw [hfm] at km
    rw [show fcan 9221120237041090561 = 9221120237041090561 from hfn] at kn
    rw [show fcan 9218868437227405312 = 9218868437227405312 from hfi] at kp
    have hfb := frombits_run
    clear hS n0 n1 n2 n3 d0 d1 d2 d3 d4 hs HT HE kraw hfn hfi hfm
    go_enter Tryz.func171, Tryz.ntmps171
    go_wp2_with (first | (go_at_call 181; go_in) | (go_at_call 177; go_in) | (go_at_call 174; first | (with_reducible (refine (kn _).mono ?_); rintro _ _ ⟨rfl, hb⟩; replace hG := Lib.hid (grow_trans hG.out hb); clear hb) | (with_reducible (refine (kp _).mono ?_); rintro _ _ ⟨rfl, hb⟩; replace hG := Lib.hid (grow_trans hG.out hb); clear hb) | (with_reducible (refine (km _).mono ?_); rintro _ _ ⟨rfl, hb⟩; replace hG := Lib.hid (grow_trans hG.out hb); clear hb)))
    go_ret2
    exact ⟨by rw [hF]; rfl, hG.out⟩
  rw [if_neg d4] at hF
  have n4 : (S.toList == [45, 48]) = false := by
    rw [hS, str_toList]
    exact beq_eq_false_iff_ne.2 d4
  have kp1 := fun w => cutpre_any l w
  obtain ⟨am, ham⟩ : ∃ a, a = Lib.trimPrefix l [45] := ⟨_, rfl⟩
  obtain ⟨sg, hsg⟩ : ∃ a, a = Lib.hasPrefix l [45] := ⟨_, rfl⟩
  have hle := trim_len l
  have hsp := strip_eq l
  rw [← ham, ← hsg] at kp1 hF hsp
  rw [← ham] at hle
  rw [← hS] at kp1
  have kc := fun w => cut_any am (by omega) w
  have e45 : strOf [45] = { data := #[45] } := rfl
  have e112 : strOf [112] = { data := #[112] } := rfl
  rw [e45] at kp1
  rw [e112] at kc
  rcases index_split am 112 with ⟨i1, _⟩ | ⟨i, i1, i2, i3, i4⟩
  · rw [if_pos (by omega)] at hF
    have hcp : cutP am = (am, [], false) := by
      unfold cutP
      rw [if_pos (by omega)]
    rw [hcp] at kc
    have kp2 := fun w => cutpre_any [] w
    rw [e45] at kp2
    obtain ⟨A, hA⟩ : ∃ A, A = strOf am := ⟨_, rfl⟩
    rw [← hA] at kc kp1
    clear hS d0 d1 d2 d3 d4 hs HT HE kraw ham hsg hle hsp hcp hA i1
    go_enter Tryz.func171, Tryz.ntmps171
    go_wp2_with (first | (go_at_call 51; first | (with_reducible (refine (kp1 _).mono ?_); rintro _ _ ⟨rfl, rfl⟩) | (refine (kp2 _).mono ?_; rintro _ _ ⟨rfl, rfl⟩)) | (go_at_call 28; with_reducible (refine (kc _).mono ?_); rintro _ _ ⟨rfl, hb⟩; replace hG := Lib.hid (grow_trans hG.out hb); clear hb))
    go_ret2
    exact ⟨by rw [hF]; rfl, hG.out⟩
  · rw [if_neg (by omega), i1, Int.toNat_natCast] at hF
    have hcp : cutP am = (am.take i, am.drop (i + 1), true) := by
      unfold cutP
      rw [if_neg (by omega), i1, Int.toNat_natCast]
    rw [hcp] at kc
    obtain ⟨od, hod⟩ : ∃ x, x = am.take i := ⟨_, rfl⟩
    obtain ⟨ex, hex⟩ : ∃ x, x = am.drop (i + 1) := ⟨_, rfl⟩
    have hlo : od.length < 1073741824 := by
      rw [hod, List.length_take]
      omega
    have hlx : ex.length < 1073741824 := by
      rw [hex, List.length_drop]
      omega
    rw [← hod, ← hex] at kc hF i3
    have hlS : l = (if sg = true then [45] else []) ++ (od ++ 112 :: ex) := by
      rw [← i3]
      exact hsp
    have kp2 := fun w => cutpre_any ex w
    rw [e45] at kp2
    have hle2 := trim_len ex
    have hF2 : fparse.fparse2 sg od ex = if canonB od = false ∨ dval od % 2 = 0 ∨ canonB (Lib.trimPrefix ex [45]) = false ∨ (Lib.hasPrefix ex [45] = true ∧ Lib.trimPrefix ex [45] = [48]) then (0, 10) else if 9007199254740992 ≤ dval od ∨ 4000 < dval (Lib.trimPrefix ex [45]) then (0, 11) else if expOf ex < -1074 ∨ D.nearest false (dval od) (expOf ex) = infB then (0, 11) else (D.word sg (D.nearest false (dval od) (expOf ex)), 0) := rfl
    rw [hF2] at hF
    have hat := fun h => @atoi_of ex h
    have htm := fun h1 h2 h3 h4 h5 => @text_match sg l od ex hlS h1 h2 h3 h4 h5
    have hnl := nearest_le (dval od) (expOf ex)
    have hex0 : expOf ex = if Lib.hasPrefix ex [45] = true then -((dval (Lib.trimPrefix ex [45]) : Nat) : Int) else ((dval (Lib.trimPrefix ex [45]) : Nat) : Int) := rfl
    obtain ⟨e, he⟩ : ∃ x, x = Lib.trimPrefix ex [45] := ⟨_, rfl⟩
    obtain ⟨en, hen⟩ : ∃ x, x = Lib.hasPrefix ex [45] := ⟨_, rfl⟩
    rw [← he, ← hen] at kp2 hF hex0
    rw [← he] at hat hle2
    rw [← he, ← hen] at htm
    have kd := fun w => digits_is od hlo w
    have ke := fun w => digits_is e (by omega) w
    obtain ⟨A, hA⟩ : ∃ A, A = strOf am := ⟨_, rfl⟩
    obtain ⟨OD, hOD⟩ : ∃ A, A = strOf od := ⟨_, rfl⟩
    obtain ⟨EX, hEX⟩ : ∃ A, A = strOf ex := ⟨_, rfl⟩
    obtain ⟨E, hE⟩ : ∃ A, A = strOf e := ⟨_, rfl⟩
    rw [← hA] at kc kp1
    rw [← hOD] at kc kd
    rw [← hEX] at kc kp2
    rw [← hE] at kp2 ke
    clear ham hsg hle hsp hcp hA i1 i2 i3 i4 he hen hod hex hle2 hF2 e45 e112 d0 d1 d2 d3 d4 hs
    cases c1 : canonB od with
    | false =>
      rw [if_pos (.inl c1)] at hF
      rw [c1] at kd
      clear hS HT HE kraw hat htm hnl hex0 ke hlo hlx hlS hOD hEX hE c1
      go_enter Tryz.func171, Tryz.ntmps171
      go_wp2_with (first | (go_at_call 51; first | (with_reducible (refine (kp1 _).mono ?_); rintro _ _ ⟨rfl, rfl⟩) | (with_reducible (refine (kp2 _).mono ?_); rintro _ _ ⟨rfl, rfl⟩)) | (go_at_call 28; with_reducible (refine (kc _).mono ?_); rintro _ _ ⟨rfl, hb⟩; replace hG := Lib.hid (grow_trans hG.out hb); clear hb) | (go_at_call 182; first | (with_reducible (refine (kd _).mono ?_); rintro _ _ ⟨rfl, hb⟩; replace hG := Lib.hid (grow_trans hG.out hb); clear hb) | (with_reducible (refine (ke _).mono ?_); rintro _ _ ⟨rfl, hb⟩; replace hG := Lib.hid (grow_trans hG.out hb); clear hb)))
      go_ret2
      exact ⟨by rw [hF]; rfl, hG.out⟩
    | true =>
      rw [c1] at kd
      obtain ⟨m, c, hmc, hcd, hpar⟩ := last_split c1
      have hodd := odd_last c hcd
      have kix := fun w => ixbyte_any c w
      have e5 : strOf [49, 51, 53, 55, 57] = { data := #[49, 51, 53, 55, 57] } := rfl
      rw [e5] at kix
      have hix := fun w => last_index m c w
      rw [← hmc, ← hOD] at hix
      have hpos : 1 ≤ OD.size := by
        rw [hOD, hmc, ba_size]
        simp
      have hsz : OD.size < 1073741824 := by
        rw [hOD, ba_size]
        exact hlo
      have hw : IntKind.i64.wrap ((OD.size : Int) - 1) = (OD.size : Int) - 1 := by
        rw [IntKind.wrap_i64]
        omega
      have c1d := (canon_digs c1).1
      have c1n := (canon_digs c1).2
      obtain ⟨X, hX⟩ : ∃ X, X = Lib.indexByte [49, 51, 53, 55, 57] c := ⟨_, rfl⟩
      obtain ⟨cn, hcn⟩ : ∃ z : Int, z = ((c.toNat : Nat) : Int) := ⟨_, rfl⟩
      rw [← hX] at kix hodd
      rw [← hcn] at kix hix
      clear hmc hcd hX hcn e5
      by_cases c2 : dval od % 2 = 0
      · rw [if_pos (.inr (.inl c2))] at hF
        have hX0 : X < 0 := hodd.2 (by omega)
        clear hS HT HE kraw hat htm hnl hex0 ke hlo hlx hlS hOD hEX hE c1 c2 hodd hpar c1d c1n
        go_enter Tryz.func171, Tryz.ntmps171
        go_wp2_with (first | (go_at_call 51; first | (with_reducible (refine (kp1 _).mono ?_); rintro _ _ ⟨rfl, rfl⟩) | (with_reducible (refine (kp2 _).mono ?_); rintro _ _ ⟨rfl, rfl⟩)) | (go_at_call 28; with_reducible (refine (kc _).mono ?_); rintro _ _ ⟨rfl, hb⟩; replace hG := Lib.hid (grow_trans hG.out hb); clear hb) | (go_at_call 182; first | (with_reducible (refine (kd _).mono ?_); rintro _ _ ⟨rfl, hb⟩; replace hG := Lib.hid (grow_trans hG.out hb); clear hb) | (with_reducible (refine (ke _).mono ?_); rintro _ _ ⟨rfl, hb⟩; replace hG := Lib.hid (grow_trans hG.out hb); clear hb)) | (go_at_call 133; with_reducible (refine (kix _).mono ?_); rintro _ _ ⟨rfl, rfl⟩))
        go_ret2
        exact ⟨by rw [hF]; rfl, hG.out⟩
      have hX0 : ¬ X < 0 := fun h => c2 (by have := hodd.1 h; omega)
      clear hodd hpar
      cases c3 : canonB e with
      | false =>
        rw [if_pos (.inr (.inr (.inl c3)))] at hF
        rw [c3] at ke
        clear hS HT HE kraw hat htm hnl hex0 hlo hlx hlS hOD hEX hE c1 c2 c3 c1d c1n
        go_enter Tryz.func171, Tryz.ntmps171
        go_wp2_with (first | (go_at_call 51; first | (with_reducible (refine (kp1 _).mono ?_); rintro _ _ ⟨rfl, rfl⟩) | (with_reducible (refine (kp2 _).mono ?_); rintro _ _ ⟨rfl, rfl⟩)) | (go_at_call 28; with_reducible (refine (kc _).mono ?_); rintro _ _ ⟨rfl, hb⟩; replace hG := Lib.hid (grow_trans hG.out hb); clear hb) | (go_at_call 182; first | (with_reducible (refine (kd _).mono ?_); rintro _ _ ⟨rfl, hb⟩; replace hG := Lib.hid (grow_trans hG.out hb); clear hb) | (with_reducible (refine (ke _).mono ?_); rintro _ _ ⟨rfl, hb⟩; replace hG := Lib.hid (grow_trans hG.out hb); clear hb)) | (go_at_call 133; with_reducible (refine (kix _).mono ?_); rintro _ _ ⟨rfl, rfl⟩))
        go_ret2
        exact ⟨by rw [hF]; rfl, hG.out⟩
      | true =>
        rw [c3] at ke
        by_cases c4 : en = true ∧ e = [48]
        · rw [if_pos (.inr (.inr (.inr c4)))] at hF
          have hE0 : (E.toList == [48]) = true := by
            rw [hE, str_toList, c4.2]
            rfl
          rw [c4.1] at kp2
          clear hS HT HE kraw hat htm hnl hex0 hlo hlx hlS hOD hEX hE c1 c2 c3 c4 c1d c1n
          go_enter Tryz.func171, Tryz.ntmps171
          go_wp2_with (first | (go_at_call 51; first | (with_reducible (refine (kp1 _).mono ?_); rintro _ _ ⟨rfl, rfl⟩) | (with_reducible (refine (kp2 _).mono ?_); rintro _ _ ⟨rfl, rfl⟩)) | (go_at_call 28; with_reducible (refine (kc _).mono ?_); rintro _ _ ⟨rfl, hb⟩; replace hG := Lib.hid (grow_trans hG.out hb); clear hb) | (go_at_call 182; first | (with_reducible (refine (kd _).mono ?_); rintro _ _ ⟨rfl, hb⟩; replace hG := Lib.hid (grow_trans hG.out hb); clear hb) | (with_reducible (refine (ke _).mono ?_); rintro _ _ ⟨rfl, hb⟩; replace hG := Lib.hid (grow_trans hG.out hb); clear hb)) | (go_at_call 133; with_reducible (refine (kix _).mono ?_); rintro _ _ ⟨rfl, rfl⟩))
          go_ret2
          exact ⟨by rw [hF]; rfl, hG.out⟩
        · have hnot : ¬ (canonB od = false ∨ dval od % 2 = 0 ∨ canonB e = false ∨ (en = true ∧ e = [48])) := by
            rintro (h | h | h | h)
            · rw [c1] at h
              cases h
            · exact c2 h
            · rw [c3] at h
              cases h
            · exact c4 h
          rw [if_neg hnot] at hF
          have hz0 : en = false ∨ (E.toList == [48]) = false := by
            by_cases k : e = [48]
            · exact .inl (by cases en with | false => rfl | true => exact absurd ⟨rfl, k⟩ c4)
            · refine .inr ?_
              rw [hE, str_toList]
              exact beq_eq_false_iff_ne.2 k
          clear hnot
          have hpm := parseUintM_dig (M := 9007199254740991) (by decide) od 0 c1d (by decide)
          have hpm2 : Lib.parseUintM 9007199254740991 0 od = if dval od ≤ 9007199254740991 then .ok (dval od) else .range := hpm
          clear hpm
          have h1m : dval od % 2 = 1 := by omega
          cases en with
          | false =>
            clear hz0
            by_cases c5 : dval od ≤ 9007199254740991
            · rw [if_pos c5] at hpm2
              have ku := fun w => uint_fits od c1n hlo c1d hpm2 w
              rw [← hOD] at ku
              rcases hat c3 with h | ⟨h, h4⟩
              · have kt := fun w => atoi_fits ex hlx h w
                rw [← hEX] at kt
                by_cases c6 : 4000 < dval e
                · rw [if_pos (.inr c6)] at hF
                  have hn : 4000 < expOf ex ∨ (¬ 4000 < expOf ex ∧ expOf ex < -4000) := by
                    rw [if_neg (by decide)] at hex0
                    omega
                  obtain ⟨n, hnn⟩ : ∃ n, n = expOf ex := ⟨_, rfl⟩
                  rw [← hnn] at kt hn
                  obtain ⟨m0, hm0⟩ : ∃ n, n = dval od := ⟨_, rfl⟩
                  rw [← hm0] at ku
                  clear hS kraw htm hnl hex0 hlo hlx hlS hOD hEX hE c1 c2 c3 c4 c1d c1n h1m hpm2 hat HT HE hnn hm0 h c5 c6
                  rcases hn with hn | ⟨hn1, hn⟩
                  · go_enter Tryz.func171, Tryz.ntmps171
                    go_wp2_with (first | (go_at_call 51; first | (with_reducible (refine (kp1 _).mono ?_); rintro _ _ ⟨rfl, rfl⟩) | (with_reducible (refine (kp2 _).mono ?_); rintro _ _ ⟨rfl, rfl⟩)) | (go_at_call 28; with_reducible (refine (kc _).mono ?_); rintro _ _ ⟨rfl, hb⟩; replace hG := Lib.hid (grow_trans hG.out hb); clear hb) | (go_at_call 182; first | (with_reducible (refine (kd _).mono ?_); rintro _ _ ⟨rfl, hb⟩; replace hG := Lib.hid (grow_trans hG.out hb); clear hb) | (with_reducible (refine (ke _).mono ?_); rintro _ _ ⟨rfl, hb⟩; replace hG := Lib.hid (grow_trans hG.out hb); clear hb)) | (go_at_call 133; with_reducible (refine (kix _).mono ?_); rintro _ _ ⟨rfl, rfl⟩) | (go_at_call 183; with_reducible (refine (ku _).mono ?_); rintro _ _ ⟨rfl, hb⟩; replace hG := Lib.hid (grow_trans hG.out hb); clear hb) | (go_at_call 80; with_reducible (refine (kt _).mono ?_); rintro _ _ ⟨rfl, hb⟩; replace hG := Lib.hid (grow_trans hG.out hb); clear hb))
                    go_ret2
                    exact ⟨by rw [hF]; rfl, hG.out⟩
                  · go_enter Tryz.func171, Tryz.ntmps171
                    go_wp2_with (first | (go_at_call 51; first | (with_reducible (refine (kp1 _).mono ?_); rintro _ _ ⟨rfl, rfl⟩) | (with_reducible (refine (kp2 _).mono ?_); rintro _ _ ⟨rfl, rfl⟩)) | (go_at_call 28; with_reducible (refine (kc _).mono ?_); rintro _ _ ⟨rfl, hb⟩; replace hG := Lib.hid (grow_trans hG.out hb); clear hb) | (go_at_call 182; first | (with_reducible (refine (kd _).mono ?_); rintro _ _ ⟨rfl, hb⟩; replace hG := Lib.hid (grow_trans hG.out hb); clear hb) | (with_reducible (refine (ke _).mono ?_); rintro _ _ ⟨rfl, hb⟩; replace hG := Lib.hid (grow_trans hG.out hb); clear hb)) | (go_at_call 133; with_reducible (refine (kix _).mono ?_); rintro _ _ ⟨rfl, rfl⟩) | (go_at_call 183; with_reducible (refine (ku _).mono ?_); rintro _ _ ⟨rfl, hb⟩; replace hG := Lib.hid (grow_trans hG.out hb); clear hb) | (go_at_call 80; with_reducible (refine (kt _).mono ?_); rintro _ _ ⟨rfl, hb⟩; replace hG := Lib.hid (grow_trans hG.out hb); clear hb))
                    go_ret2
                    exact ⟨by rw [hF]; rfl, hG.out⟩
                · rw [if_neg (show ¬ (9007199254740992 ≤ dval od ∨ 4000 < dval e) by omega)] at hF
                  have hn0 : -4000 ≤ expOf ex ∧ expOf ex ≤ 4000 := by
                    rw [if_neg (by decide)] at hex0
                    omega
                  obtain ⟨r, r1, r2, r3, r4⟩ := float_odd h1m (show dval od < 9007199254740992 by omega)
                  have kl := fun w => ldexp_any (n := expOf ex) r2 r3 (by omega) (by omega) w
                  rw [r4] at kl
                  have htm2 := htm c1 h1m (by omega) c3 c4
                  obtain ⟨wf1, wf2, wf3⟩ := word_facts sg hnl
                  obtain ⟨x0, hx0⟩ : ∃ x, x = D.nearest false (dval od) (expOf ex) := ⟨_, rfl⟩
                  rw [← hx0] at kl htm2 hF hnl wf1 wf2 wf3
                  have hxl : D.word sg x0 < 2 * signB := word_lt2 sg (Nat.lt_of_le_of_lt hnl (by decide))
                  have kx := text_any hxl
                  have kr := kraw (D.word sg x0)
                  rw [fcan_plain wf1] at kr
                  have hneg : sg = true → Op.negFloat .f64 x0 = D.word sg x0 := fun hsg => by
                    have h2 := neg_is (a := x0) (Nat.lt_of_le_of_lt hnl (by decide))
                    have hnn : isN x0 = false := by
                      unfold isN
                      rw [Nat.mod_eq_of_lt (Nat.lt_of_le_of_lt hnl (by decide))]
                      exact decide_eq_false (by omega)
                    have h3 : fneg x0 = D.word sg x0 := by
                      unfold fneg
                      rw [hnn, if_neg (by decide), hsg]
                      have := word_flip false x0 (Nat.lt_of_le_of_lt hnl (by decide))
                      rw [word_f] at this
                      exact this.symm
                    rw [h3] at h2
                    refine fcan_eq h2 fun h4 => ?_
                    rw [h4] at wf1
                    exact absurd wf1 (by decide)
                  obtain ⟨xw, hxw⟩ : ∃ x, x = D.word sg x0 := ⟨_, rfl⟩
                  have hx00 : sg = false → xw = x0 := fun h => by rw [hxw, h, word_f]
                  rw [← hxw] at hF htm2 kx kr hneg
                  obtain ⟨TX, hTX⟩ : ∃ z : ByteArray, z = ⟨(ftext xw).toArray⟩ := ⟨_, rfl⟩
                  have hTS : (TX.toList == S.toList) = decide (ftext xw = l) := by
                    rw [hTX, hS]
                    show ((strOf (ftext xw)).toList == (strOf l).toList) = _
                    rw [str_toList, str_toList]
                    by_cases q : ftext xw = l
                    · rw [decide_eq_true q, q]
                      simp
                    · rw [decide_eq_false q]
                      exact beq_eq_false_iff_ne.2 q
                  rw [← hTX] at kx
                  obtain ⟨n, hnn⟩ : ∃ n, n = expOf ex := ⟨_, rfl⟩
                  rw [← hnn] at kt kl hn0 hF htm2
                  obtain ⟨m0, hm0⟩ : ∃ n : Int, n = ((dval od : Nat) : Int) := ⟨_, rfl⟩
                  rw [← hm0] at ku r1
                  have hres : V = if ftext xw = l then (xw, 0) else (0, 11) := by
                    rw [hF]
                    by_cases q : ftext xw = l
                    · have := htm2.1 q
                      rw [if_pos q, if_neg (fun h => h.elim (by omega) this.2)]
                    · rw [if_neg q, if_pos]
                      by_cases q2 : n < -1074
                      · exact .inl q2
                      · refine .inr (Classical.byContradiction fun q3 => q (htm2.2 ⟨by omega, q3⟩))
                  have g1 : ¬ 4000 < n := by omega
                  have g2 : ¬ n < -4000 := by omega
                  clear hS kraw htm hnl hex0 hlo hlx hlS hOD hEX hE c1 c2 c3 c4 c1d c1n h1m hpm2 hat HE hnn hm0 h c5 c6 hF htm2 wf1 wf2 wf3 hxl hTX hxw hn0 hx0 r2 r3 r4
                  cases sg with
                  | true =>
                    have hneg0 := hneg rfl
                    clear hneg
                    have hneg : ∀ w, (Op.unary .neg (.float .f64 x0)).run Tryz.prog w = .ok (.float .f64 xw) w := fun w => by
                      rw [← hneg0]
                      rfl
                    clear hx00 hneg0
                    by_cases q : ftext xw = l
                    · rw [if_pos q] at hres
                      rw [decide_eq_true q] at hTS
                      have hTS : (TX.toList == S.toList) = true := hTS
                      clear q
                      go_enter Tryz.func171, Tryz.ntmps171
                      go_wp2_with (first | (go_at_call 51; first | (with_reducible (refine (kp1 _).mono ?_); rintro _ _ ⟨rfl, rfl⟩) | (with_reducible (refine (kp2 _).mono ?_); rintro _ _ ⟨rfl, rfl⟩)) | (go_at_call 28; with_reducible (refine (kc _).mono ?_); rintro _ _ ⟨rfl, hb⟩; replace hG := Lib.hid (grow_trans hG.out hb); clear hb) | (go_at_call 182; first | (with_reducible (refine (kd _).mono ?_); rintro _ _ ⟨rfl, hb⟩; replace hG := Lib.hid (grow_trans hG.out hb); clear hb) | (with_reducible (refine (ke _).mono ?_); rintro _ _ ⟨rfl, hb⟩; replace hG := Lib.hid (grow_trans hG.out hb); clear hb)) | (go_at_call 133; with_reducible (refine (kix _).mono ?_); rintro _ _ ⟨rfl, rfl⟩) | (go_at_call 183; with_reducible (refine (ku _).mono ?_); rintro _ _ ⟨rfl, hb⟩; replace hG := Lib.hid (grow_trans hG.out hb); clear hb) | (go_at_call 80; with_reducible (refine (kt _).mono ?_); rintro _ _ ⟨rfl, hb⟩; replace hG := Lib.hid (grow_trans hG.out hb); clear hb) | (go_at_call 107; with_reducible (refine (kl _).mono ?_); rintro _ _ ⟨rfl, k0, rfl⟩; replace hG := Lib.hid (below_drewN hG.out k0)) | (go_at_call 174; with_reducible (refine (kr _).mono ?_); rintro _ _ ⟨rfl, hb⟩; replace hG := Lib.hid (grow_trans hG.out hb); clear hb) | (go_at_call 67; with_reducible (refine (kx _ (tabs_keep hG.out HT.out)).mono ?_); rintro _ _ ⟨rfl, hb⟩; replace hG := Lib.hid (grow_trans hG.out hb); clear hb))
                      go_ret2
                      exact ⟨by rw [hres]; rfl, hG.out⟩
                    · rw [if_neg q] at hres
                      rw [decide_eq_false q] at hTS
                      have hTS : (TX.toList == S.toList) = false := hTS
                      clear q
                      go_enter Tryz.func171, Tryz.ntmps171
                      go_wp2_with (first | (go_at_call 51; first | (with_reducible (refine (kp1 _).mono ?_); rintro _ _ ⟨rfl, rfl⟩) | (with_reducible (refine (kp2 _).mono ?_); rintro _ _ ⟨rfl, rfl⟩)) | (go_at_call 28; with_reducible (refine (kc _).mono ?_); rintro _ _ ⟨rfl, hb⟩; replace hG := Lib.hid (grow_trans hG.out hb); clear hb) | (go_at_call 182; first | (with_reducible (refine (kd _).mono ?_); rintro _ _ ⟨rfl, hb⟩; replace hG := Lib.hid (grow_trans hG.out hb); clear hb) | (with_reducible (refine (ke _).mono ?_); rintro _ _ ⟨rfl, hb⟩; replace hG := Lib.hid (grow_trans hG.out hb); clear hb)) | (go_at_call 133; with_reducible (refine (kix _).mono ?_); rintro _ _ ⟨rfl, rfl⟩) | (go_at_call 183; with_reducible (refine (ku _).mono ?_); rintro _ _ ⟨rfl, hb⟩; replace hG := Lib.hid (grow_trans hG.out hb); clear hb) | (go_at_call 80; with_reducible (refine (kt _).mono ?_); rintro _ _ ⟨rfl, hb⟩; replace hG := Lib.hid (grow_trans hG.out hb); clear hb) | (go_at_call 107; with_reducible (refine (kl _).mono ?_); rintro _ _ ⟨rfl, k0, rfl⟩; replace hG := Lib.hid (below_drewN hG.out k0)) | (go_at_call 174; with_reducible (refine (kr _).mono ?_); rintro _ _ ⟨rfl, hb⟩; replace hG := Lib.hid (grow_trans hG.out hb); clear hb) | (go_at_call 67; with_reducible (refine (kx _ (tabs_keep hG.out HT.out)).mono ?_); rintro _ _ ⟨rfl, hb⟩; replace hG := Lib.hid (grow_trans hG.out hb); clear hb))
                      go_ret2
                      exact ⟨by rw [hres]; rfl, hG.out⟩
                  | false =>
                    have hy00 := hx00 rfl
                    clear hx00 hneg
                    rw [← hy00] at kl
                    clear hy00
                    by_cases q : ftext xw = l
                    · rw [if_pos q] at hres
                      rw [decide_eq_true q] at hTS
                      have hTS : (TX.toList == S.toList) = true := hTS
                      clear q
                      go_enter Tryz.func171, Tryz.ntmps171
                      go_wp2_with (first | (go_at_call 51; first | (with_reducible (refine (kp1 _).mono ?_); rintro _ _ ⟨rfl, rfl⟩) | (with_reducible (refine (kp2 _).mono ?_); rintro _ _ ⟨rfl, rfl⟩)) | (go_at_call 28; with_reducible (refine (kc _).mono ?_); rintro _ _ ⟨rfl, hb⟩; replace hG := Lib.hid (grow_trans hG.out hb); clear hb) | (go_at_call 182; first | (with_reducible (refine (kd _).mono ?_); rintro _ _ ⟨rfl, hb⟩; replace hG := Lib.hid (grow_trans hG.out hb); clear hb) | (with_reducible (refine (ke _).mono ?_); rintro _ _ ⟨rfl, hb⟩; replace hG := Lib.hid (grow_trans hG.out hb); clear hb)) | (go_at_call 133; with_reducible (refine (kix _).mono ?_); rintro _ _ ⟨rfl, rfl⟩) | (go_at_call 183; with_reducible (refine (ku _).mono ?_); rintro _ _ ⟨rfl, hb⟩; replace hG := Lib.hid (grow_trans hG.out hb); clear hb) | (go_at_call 80; with_reducible (refine (kt _).mono ?_); rintro _ _ ⟨rfl, hb⟩; replace hG := Lib.hid (grow_trans hG.out hb); clear hb) | (go_at_call 107; with_reducible (refine (kl _).mono ?_); rintro _ _ ⟨rfl, k0, rfl⟩; replace hG := Lib.hid (below_drewN hG.out k0)) | (go_at_call 174; with_reducible (refine (kr _).mono ?_); rintro _ _ ⟨rfl, hb⟩; replace hG := Lib.hid (grow_trans hG.out hb); clear hb) | (go_at_call 67; with_reducible (refine (kx _ (tabs_keep hG.out HT.out)).mono ?_); rintro _ _ ⟨rfl, hb⟩; replace hG := Lib.hid (grow_trans hG.out hb); clear hb))
                      go_ret2
                      exact ⟨by rw [hres]; rfl, hG.out⟩
                    · rw [if_neg q] at hres
                      rw [decide_eq_false q] at hTS
                      have hTS : (TX.toList == S.toList) = false := hTS
                      clear q
                      go_enter Tryz.func171, Tryz.ntmps171
                      go_wp2_with (first | (go_at_call 51; first | (with_reducible (refine (kp1 _).mono ?_); rintro _ _ ⟨rfl, rfl⟩) | (with_reducible (refine (kp2 _).mono ?_); rintro _ _ ⟨rfl, rfl⟩)) | (go_at_call 28; with_reducible (refine (kc _).mono ?_); rintro _ _ ⟨rfl, hb⟩; replace hG := Lib.hid (grow_trans hG.out hb); clear hb) | (go_at_call 182; first | (with_reducible (refine (kd _).mono ?_); rintro _ _ ⟨rfl, hb⟩; replace hG := Lib.hid (grow_trans hG.out hb); clear hb) | (with_reducible (refine (ke _).mono ?_); rintro _ _ ⟨rfl, hb⟩; replace hG := Lib.hid (grow_trans hG.out hb); clear hb)) | (go_at_call 133; with_reducible (refine (kix _).mono ?_); rintro _ _ ⟨rfl, rfl⟩) | (go_at_call 183; with_reducible (refine (ku _).mono ?_); rintro _ _ ⟨rfl, hb⟩; replace hG := Lib.hid (grow_trans hG.out hb); clear hb) | (go_at_call 80; with_reducible (refine (kt _).mono ?_); rintro _ _ ⟨rfl, hb⟩; replace hG := Lib.hid (grow_trans hG.out hb); clear hb) | (go_at_call 107; with_reducible (refine (kl _).mono ?_); rintro _ _ ⟨rfl, k0, rfl⟩; replace hG := Lib.hid (below_drewN hG.out k0)) | (go_at_call 174; with_reducible (refine (kr _).mono ?_); rintro _ _ ⟨rfl, hb⟩; replace hG := Lib.hid (grow_trans hG.out hb); clear hb) | (go_at_call 67; with_reducible (refine (kx _ (tabs_keep hG.out HT.out)).mono ?_); rintro _ _ ⟨rfl, hb⟩; replace hG := Lib.hid (grow_trans hG.out hb); clear hb))
                      go_ret2
                      exact ⟨by rw [hres]; rfl, hG.out⟩
              · have kt := fun w h2 => atoi_far ex hlx h w h2
                rw [← hEX] at kt
                rw [if_pos (.inr h4)] at hF
                obtain ⟨m0, hm0⟩ : ∃ n, n = dval od := ⟨_, rfl⟩
                rw [← hm0] at ku
                clear hS kraw htm hnl hex0 hlo hlx hlS hOD hEX hE c1 c2 c3 c4 c1d c1n h1m hpm2 hat HT hm0 h h4 c5
                go_enter Tryz.func171, Tryz.ntmps171
                go_wp2_with (first | (go_at_call 51; first | (with_reducible (refine (kp1 _).mono ?_); rintro _ _ ⟨rfl, rfl⟩) | (with_reducible (refine (kp2 _).mono ?_); rintro _ _ ⟨rfl, rfl⟩)) | (go_at_call 28; with_reducible (refine (kc _).mono ?_); rintro _ _ ⟨rfl, hb⟩; replace hG := Lib.hid (grow_trans hG.out hb); clear hb) | (go_at_call 182; first | (with_reducible (refine (kd _).mono ?_); rintro _ _ ⟨rfl, hb⟩; replace hG := Lib.hid (grow_trans hG.out hb); clear hb) | (with_reducible (refine (ke _).mono ?_); rintro _ _ ⟨rfl, hb⟩; replace hG := Lib.hid (grow_trans hG.out hb); clear hb)) | (go_at_call 133; with_reducible (refine (kix _).mono ?_); rintro _ _ ⟨rfl, rfl⟩) | (go_at_call 183; with_reducible (refine (ku _).mono ?_); rintro _ _ ⟨rfl, hb⟩; replace hG := Lib.hid (grow_trans hG.out hb); clear hb) | (go_at_call 80; refine (kt _ (err_keep hG.out HE.out)).mono ?_; rintro _ _ ⟨⟨an, av, aa, rfl⟩, hb⟩; replace hG := Lib.hid (grow_trans hG.out hb); clear hb))
                go_ret2
                exact ⟨by rw [hF]; rfl, hG.out⟩
            · rw [if_neg c5] at hpm2
              rw [if_pos (.inl (by omega))] at hF
              have ku := fun w h2 => uint_range od c1n hlo c1d hpm2 w h2
              rw [← hOD] at ku
              rcases hat c3 with h | ⟨h, h4⟩
              · have kt := fun w => atoi_fits ex hlx h w
                rw [← hEX] at kt
                obtain ⟨n, hnn⟩ : ∃ n, n = expOf ex := ⟨_, rfl⟩
                rw [← hnn] at kt
                clear hS kraw htm hnl hex0 hlo hlx hlS hOD hEX hE c1 c2 c3 c4 c1d c1n h1m hpm2 hat HT hnn h c5
                go_enter Tryz.func171, Tryz.ntmps171
                go_wp2_with (first | (go_at_call 51; first | (with_reducible (refine (kp1 _).mono ?_); rintro _ _ ⟨rfl, rfl⟩) | (with_reducible (refine (kp2 _).mono ?_); rintro _ _ ⟨rfl, rfl⟩)) | (go_at_call 28; with_reducible (refine (kc _).mono ?_); rintro _ _ ⟨rfl, hb⟩; replace hG := Lib.hid (grow_trans hG.out hb); clear hb) | (go_at_call 182; first | (with_reducible (refine (kd _).mono ?_); rintro _ _ ⟨rfl, hb⟩; replace hG := Lib.hid (grow_trans hG.out hb); clear hb) | (with_reducible (refine (ke _).mono ?_); rintro _ _ ⟨rfl, hb⟩; replace hG := Lib.hid (grow_trans hG.out hb); clear hb)) | (go_at_call 133; with_reducible (refine (kix _).mono ?_); rintro _ _ ⟨rfl, rfl⟩) | (go_at_call 183; refine (ku _ (err_keep hG.out HE.out)).mono ?_; rintro _ _ ⟨⟨uv, ua, rfl⟩, hb⟩; replace hG := Lib.hid (grow_trans hG.out hb); clear hb) | (go_at_call 80; with_reducible (refine (kt _).mono ?_); rintro _ _ ⟨rfl, hb⟩; replace hG := Lib.hid (grow_trans hG.out hb); clear hb))
                go_ret2
                exact ⟨by rw [hF]; rfl, hG.out⟩
              · have kt := fun w h2 => atoi_far ex hlx h w h2
                rw [← hEX] at kt
                clear hS kraw htm hnl hex0 hlo hlx hlS hOD hEX hE c1 c2 c3 c4 c1d c1n h1m hpm2 hat HT h h4 c5
                go_enter Tryz.func171, Tryz.ntmps171
                go_wp2_with (first | (go_at_call 51; first | (with_reducible (refine (kp1 _).mono ?_); rintro _ _ ⟨rfl, rfl⟩) | (with_reducible (refine (kp2 _).mono ?_); rintro _ _ ⟨rfl, rfl⟩)) | (go_at_call 28; with_reducible (refine (kc _).mono ?_); rintro _ _ ⟨rfl, hb⟩; replace hG := Lib.hid (grow_trans hG.out hb); clear hb) | (go_at_call 182; first | (with_reducible (refine (kd _).mono ?_); rintro _ _ ⟨rfl, hb⟩; replace hG := Lib.hid (grow_trans hG.out hb); clear hb) | (with_reducible (refine (ke _).mono ?_); rintro _ _ ⟨rfl, hb⟩; replace hG := Lib.hid (grow_trans hG.out hb); clear hb)) | (go_at_call 133; with_reducible (refine (kix _).mono ?_); rintro _ _ ⟨rfl, rfl⟩) | (go_at_call 183; refine (ku _ (err_keep hG.out HE.out)).mono ?_; rintro _ _ ⟨⟨uv, ua, rfl⟩, hb⟩; replace hG := Lib.hid (grow_trans hG.out hb); clear hb) | (go_at_call 80; refine (kt _ (err_keep hG.out HE.out)).mono ?_; rintro _ _ ⟨⟨an, av, aa, rfl⟩, hb⟩; replace hG := Lib.hid (grow_trans hG.out hb); clear hb))
                go_ret2
                exact ⟨by rw [hF]; rfl, hG.out⟩
          | true =>
            have hz1 : (E.toList == [48]) = false := hz0.resolve_left (by decide)
            clear hz0
            by_cases c5 : dval od ≤ 9007199254740991
            · rw [if_pos c5] at hpm2
              have ku := fun w => uint_fits od c1n hlo c1d hpm2 w
              rw [← hOD] at ku
              rcases hat c3 with h | ⟨h, h4⟩
              · have kt := fun w => atoi_fits ex hlx h w
                rw [← hEX] at kt
                by_cases c6 : 4000 < dval e
                · rw [if_pos (.inr c6)] at hF
                  have hn : 4000 < expOf ex ∨ (¬ 4000 < expOf ex ∧ expOf ex < -4000) := by
                    rw [if_pos rfl] at hex0
                    omega
                  obtain ⟨n, hnn⟩ : ∃ n, n = expOf ex := ⟨_, rfl⟩
                  rw [← hnn] at kt hn
                  obtain ⟨m0, hm0⟩ : ∃ n, n = dval od := ⟨_, rfl⟩
                  rw [← hm0] at ku
                  clear hS kraw htm hnl hex0 hlo hlx hlS hOD hEX hE c1 c2 c3 c4 c1d c1n h1m hpm2 hat HT HE hnn hm0 h c5 c6
                  rcases hn with hn | ⟨hn1, hn⟩
                  · go_enter Tryz.func171, Tryz.ntmps171
                    go_wp2_with (first | (go_at_call 51; first | (with_reducible (refine (kp1 _).mono ?_); rintro _ _ ⟨rfl, rfl⟩) | (with_reducible (refine (kp2 _).mono ?_); rintro _ _ ⟨rfl, rfl⟩)) | (go_at_call 28; with_reducible (refine (kc _).mono ?_); rintro _ _ ⟨rfl, hb⟩; replace hG := Lib.hid (grow_trans hG.out hb); clear hb) | (go_at_call 182; first | (with_reducible (refine (kd _).mono ?_); rintro _ _ ⟨rfl, hb⟩; replace hG := Lib.hid (grow_trans hG.out hb); clear hb) | (with_reducible (refine (ke _).mono ?_); rintro _ _ ⟨rfl, hb⟩; replace hG := Lib.hid (grow_trans hG.out hb); clear hb)) | (go_at_call 133; with_reducible (refine (kix _).mono ?_); rintro _ _ ⟨rfl, rfl⟩) | (go_at_call 183; with_reducible (refine (ku _).mono ?_); rintro _ _ ⟨rfl, hb⟩; replace hG := Lib.hid (grow_trans hG.out hb); clear hb) | (go_at_call 80; with_reducible (refine (kt _).mono ?_); rintro _ _ ⟨rfl, hb⟩; replace hG := Lib.hid (grow_trans hG.out hb); clear hb))
                    go_ret2
                    exact ⟨by rw [hF]; rfl, hG.out⟩
                  · go_enter Tryz.func171, Tryz.ntmps171
                    go_wp2_with (first | (go_at_call 51; first | (with_reducible (refine (kp1 _).mono ?_); rintro _ _ ⟨rfl, rfl⟩) | (with_reducible (refine (kp2 _).mono ?_); rintro _ _ ⟨rfl, rfl⟩)) | (go_at_call 28; with_reducible (refine (kc _).mono ?_); rintro _ _ ⟨rfl, hb⟩; replace hG := Lib.hid (grow_trans hG.out hb); clear hb) | (go_at_call 182; first | (with_reducible (refine (kd _).mono ?_); rintro _ _ ⟨rfl, hb⟩; replace hG := Lib.hid (grow_trans hG.out hb); clear hb) | (with_reducible (refine (ke _).mono ?_); rintro _ _ ⟨rfl, hb⟩; replace hG := Lib.hid (grow_trans hG.out hb); clear hb)) | (go_at_call 133; with_reducible (refine (kix _).mono ?_); rintro _ _ ⟨rfl, rfl⟩) | (go_at_call 183; with_reducible (refine (ku _).mono ?_); rintro _ _ ⟨rfl, hb⟩; replace hG := Lib.hid (grow_trans hG.out hb); clear hb) | (go_at_call 80; with_reducible (refine (kt _).mono ?_); rintro _ _ ⟨rfl, hb⟩; replace hG := Lib.hid (grow_trans hG.out hb); clear hb))
                    go_ret2
                    exact ⟨by rw [hF]; rfl, hG.out⟩
                · rw [if_neg (show ¬ (9007199254740992 ≤ dval od ∨ 4000 < dval e) by omega)] at hF
                  have hn0 : -4000 ≤ expOf ex ∧ expOf ex ≤ 4000 := by
                    rw [if_pos rfl] at hex0
                    omega
                  obtain ⟨r, r1, r2, r3, r4⟩ := float_odd h1m (show dval od < 9007199254740992 by omega)
                  have kl := fun w => ldexp_any (n := expOf ex) r2 r3 (by omega) (by omega) w
                  rw [r4] at kl
                  have htm2 := htm c1 h1m (by omega) c3 c4
                  obtain ⟨wf1, wf2, wf3⟩ := word_facts sg hnl
                  obtain ⟨x0, hx0⟩ : ∃ x, x = D.nearest false (dval od) (expOf ex) := ⟨_, rfl⟩
                  rw [← hx0] at kl htm2 hF hnl wf1 wf2 wf3
                  have hxl : D.word sg x0 < 2 * signB := word_lt2 sg (Nat.lt_of_le_of_lt hnl (by decide))
                  have kx := text_any hxl
                  have kr := kraw (D.word sg x0)
                  rw [fcan_plain wf1] at kr
                  have hneg : sg = true → Op.negFloat .f64 x0 = D.word sg x0 := fun hsg => by
                    have h2 := neg_is (a := x0) (Nat.lt_of_le_of_lt hnl (by decide))
                    have hnn : isN x0 = false := by
                      unfold isN
                      rw [Nat.mod_eq_of_lt (Nat.lt_of_le_of_lt hnl (by decide))]
                      exact decide_eq_false (by omega)
                    have h3 : fneg x0 = D.word sg x0 := by
                      unfold fneg
                      rw [hnn, if_neg (by decide), hsg]
                      have := word_flip false x0 (Nat.lt_of_le_of_lt hnl (by decide))
                      rw [word_f] at this
                      exact this.symm
                    rw [h3] at h2
                    refine fcan_eq h2 fun h4 => ?_
                    rw [h4] at wf1
                    exact absurd wf1 (by decide)
                  obtain ⟨xw, hxw⟩ : ∃ x, x = D.word sg x0 := ⟨_, rfl⟩
                  have hx00 : sg = false → xw = x0 := fun h => by rw [hxw, h, word_f]
                  rw [← hxw] at hF htm2 kx kr hneg
                  obtain ⟨TX, hTX⟩ : ∃ z : ByteArray, z = ⟨(ftext xw).toArray⟩ := ⟨_, rfl⟩
                  have hTS : (TX.toList == S.toList) = decide (ftext xw = l) := by
                    rw [hTX, hS]
                    show ((strOf (ftext xw)).toList == (strOf l).toList) = _
                    rw [str_toList, str_toList]
                    by_cases q : ftext xw = l
                    · rw [decide_eq_true q, q]
                      simp
                    · rw [decide_eq_false q]
                      exact beq_eq_false_iff_ne.2 q
                  rw [← hTX] at kx
                  obtain ⟨n, hnn⟩ : ∃ n, n = expOf ex := ⟨_, rfl⟩
                  rw [← hnn] at kt kl hn0 hF htm2
                  obtain ⟨m0, hm0⟩ : ∃ n : Int, n = ((dval od : Nat) : Int) := ⟨_, rfl⟩
                  rw [← hm0] at ku r1
                  have hres : V = if ftext xw = l then (xw, 0) else (0, 11) := by
                    rw [hF]
                    by_cases q : ftext xw = l
                    · have := htm2.1 q
                      rw [if_pos q, if_neg (fun h => h.elim (by omega) this.2)]
                    · rw [if_neg q, if_pos]
                      by_cases q2 : n < -1074
                      · exact .inl q2
                      · refine .inr (Classical.byContradiction fun q3 => q (htm2.2 ⟨by omega, q3⟩))
                  have g1 : ¬ 4000 < n := by omega
                  have g2 : ¬ n < -4000 := by omega
                  clear hS kraw htm hnl hex0 hlo hlx hlS hOD hEX hE c1 c2 c3 c4 c1d c1n h1m hpm2 hat HE hnn hm0 h c5 c6 hF htm2 wf1 wf2 wf3 hxl hTX hxw hn0 hx0 r2 r3 r4
                  cases sg with
                  | true =>
                    have hneg0 := hneg rfl
                    clear hneg
                    have hneg : ∀ w, (Op.unary .neg (.float .f64 x0)).run Tryz.prog w = .ok (.float .f64 xw) w := fun w => by
                      rw [← hneg0]
                      rfl
                    clear hx00 hneg0
                    by_cases q : ftext xw = l
                    · rw [if_pos q] at hres
                      rw [decide_eq_true q] at hTS
                      have hTS : (TX.toList == S.toList) = true := hTS
                      clear q
                      go_enter Tryz.func171, Tryz.ntmps171
                      go_wp2_with (first | (go_at_call 51; first | (with_reducible (refine (kp1 _).mono ?_); rintro _ _ ⟨rfl, rfl⟩) | (with_reducible (refine (kp2 _).mono ?_); rintro _ _ ⟨rfl, rfl⟩)) | (go_at_call 28; with_reducible (refine (kc _).mono ?_); rintro _ _ ⟨rfl, hb⟩; replace hG := Lib.hid (grow_trans hG.out hb); clear hb) | (go_at_call 182; first | (with_reducible (refine (kd _).mono ?_); rintro _ _ ⟨rfl, hb⟩; replace hG := Lib.hid (grow_trans hG.out hb); clear hb) | (with_reducible (refine (ke _).mono ?_); rintro _ _ ⟨rfl, hb⟩; replace hG := Lib.hid (grow_trans hG.out hb); clear hb)) | (go_at_call 133; with_reducible (refine (kix _).mono ?_); rintro _ _ ⟨rfl, rfl⟩) | (go_at_call 183; with_reducible (refine (ku _).mono ?_); rintro _ _ ⟨rfl, hb⟩; replace hG := Lib.hid (grow_trans hG.out hb); clear hb) | (go_at_call 80; with_reducible (refine (kt _).mono ?_); rintro _ _ ⟨rfl, hb⟩; replace hG := Lib.hid (grow_trans hG.out hb); clear hb) | (go_at_call 107; with_reducible (refine (kl _).mono ?_); rintro _ _ ⟨rfl, k0, rfl⟩; replace hG := Lib.hid (below_drewN hG.out k0)) | (go_at_call 174; with_reducible (refine (kr _).mono ?_); rintro _ _ ⟨rfl, hb⟩; replace hG := Lib.hid (grow_trans hG.out hb); clear hb) | (go_at_call 67; with_reducible (refine (kx _ (tabs_keep hG.out HT.out)).mono ?_); rintro _ _ ⟨rfl, hb⟩; replace hG := Lib.hid (grow_trans hG.out hb); clear hb))
                      go_ret2
                      exact ⟨by rw [hres]; rfl, hG.out⟩
                    · rw [if_neg q] at hres
                      rw [decide_eq_false q] at hTS
                      have hTS : (TX.toList == S.toList) = false := hTS
                      clear q
                      go_enter Tryz.func171, Tryz.ntmps171
                      go_wp2_with (first | (go_at_call 51; first | (with_reducible (refine (kp1 _).mono ?_); rintro _ _ ⟨rfl, rfl⟩) | (with_reducible (refine (kp2 _).mono ?_); rintro _ _ ⟨rfl, rfl⟩)) | (go_at_call 28; with_reducible (refine (kc _).mono ?_); rintro _ _ ⟨rfl, hb⟩; replace hG := Lib.hid (grow_trans hG.out hb); clear hb) | (go_at_call 182; first | (with_reducible (refine (kd _).mono ?_); rintro _ _ ⟨rfl, hb⟩; replace hG := Lib.hid (grow_trans hG.out hb); clear hb) | (with_reducible (refine (ke _).mono ?_); rintro _ _ ⟨rfl, hb⟩; replace hG := Lib.hid (grow_trans hG.out hb); clear hb)) | (go_at_call 133; with_reducible (refine (kix _).mono ?_); rintro _ _ ⟨rfl, rfl⟩) | (go_at_call 183; with_reducible (refine (ku _).mono ?_); rintro _ _ ⟨rfl, hb⟩; replace hG := Lib.hid (grow_trans hG.out hb); clear hb) | (go_at_call 80; with_reducible (refine (kt _).mono ?_); rintro _ _ ⟨rfl, hb⟩; replace hG := Lib.hid (grow_trans hG.out hb); clear hb) | (go_at_call 107; with_reducible (refine (kl _).mono ?_); rintro _ _ ⟨rfl, k0, rfl⟩; replace hG := Lib.hid (below_drewN hG.out k0)) | (go_at_call 174; with_reducible (refine (kr _).mono ?_); rintro _ _ ⟨rfl, hb⟩; replace hG := Lib.hid (grow_trans hG.out hb); clear hb) | (go_at_call 67; with_reducible (refine (kx _ (tabs_keep hG.out HT.out)).mono ?_); rintro _ _ ⟨rfl, hb⟩; replace hG := Lib.hid (grow_trans hG.out hb); clear hb))
                      go_ret2
                      exact ⟨by rw [hres]; rfl, hG.out⟩
                  | false =>
                    have hy00 := hx00 rfl
                    clear hx00 hneg
                    rw [← hy00] at kl
                    clear hy00
                    by_cases q : ftext xw = l
                    · rw [if_pos q] at hres
                      rw [decide_eq_true q] at hTS
                      have hTS : (TX.toList == S.toList) = true := hTS
                      clear q
                      go_enter Tryz.func171, Tryz.ntmps171
                      go_wp2_with (first | (go_at_call 51; first | (with_reducible (refine (kp1 _).mono ?_); rintro _ _ ⟨rfl, rfl⟩) | (with_reducible (refine (kp2 _).mono ?_); rintro _ _ ⟨rfl, rfl⟩)) | (go_at_call 28; with_reducible (refine (kc _).mono ?_); rintro _ _ ⟨rfl, hb⟩; replace hG := Lib.hid (grow_trans hG.out hb); clear hb) | (go_at_call 182; first | (with_reducible (refine (kd _).mono ?_); rintro _ _ ⟨rfl, hb⟩; replace hG := Lib.hid (grow_trans hG.out hb); clear hb) | (with_reducible (refine (ke _).mono ?_); rintro _ _ ⟨rfl, hb⟩; replace hG := Lib.hid (grow_trans hG.out hb); clear hb)) | (go_at_call 133; with_reducible (refine (kix _).mono ?_); rintro _ _ ⟨rfl, rfl⟩) | (go_at_call 183; with_reducible (refine (ku _).mono ?_); rintro _ _ ⟨rfl, hb⟩; replace hG := Lib.hid (grow_trans hG.out hb); clear hb) | (go_at_call 80; with_reducible (refine (kt _).mono ?_); rintro _ _ ⟨rfl, hb⟩; replace hG := Lib.hid (grow_trans hG.out hb); clear hb) | (go_at_call 107; with_reducible (refine (kl _).mono ?_); rintro _ _ ⟨rfl, k0, rfl⟩; replace hG := Lib.hid (below_drewN hG.out k0)) | (go_at_call 174; with_reducible (refine (kr _).mono ?_); rintro _ _ ⟨rfl, hb⟩; replace hG := Lib.hid (grow_trans hG.out hb); clear hb) | (go_at_call 67; with_reducible (refine (kx _ (tabs_keep hG.out HT.out)).mono ?_); rintro _ _ ⟨rfl, hb⟩; replace hG := Lib.hid (grow_trans hG.out hb); clear hb))
                      go_ret2
                      exact ⟨by rw [hres]; rfl, hG.out⟩
                    · rw [if_neg q] at hres
                      rw [decide_eq_false q] at hTS
                      have hTS : (TX.toList == S.toList) = false := hTS
                      clear q
                      go_enter Tryz.func171, Tryz.ntmps171
                      go_wp2_with (first | (go_at_call 51; first | (with_reducible (refine (kp1 _).mono ?_); rintro _ _ ⟨rfl, rfl⟩) | (with_reducible (refine (kp2 _).mono ?_); rintro _ _ ⟨rfl, rfl⟩)) | (go_at_call 28; with_reducible (refine (kc _).mono ?_); rintro _ _ ⟨rfl, hb⟩; replace hG := Lib.hid (grow_trans hG.out hb); clear hb) | (go_at_call 182; first | (with_reducible (refine (kd _).mono ?_); rintro _ _ ⟨rfl, hb⟩; replace hG := Lib.hid (grow_trans hG.out hb); clear hb) | (with_reducible (refine (ke _).mono ?_); rintro _ _ ⟨rfl, hb⟩; replace hG := Lib.hid (grow_trans hG.out hb); clear hb)) | (go_at_call 133; with_reducible (refine (kix _).mono ?_); rintro _ _ ⟨rfl, rfl⟩) | (go_at_call 183; with_reducible (refine (ku _).mono ?_); rintro _ _ ⟨rfl, hb⟩; replace hG := Lib.hid (grow_trans hG.out hb); clear hb) | (go_at_call 80; with_reducible (refine (kt _).mono ?_); rintro _ _ ⟨rfl, hb⟩; replace hG := Lib.hid (grow_trans hG.out hb); clear hb) | (go_at_call 107; with_reducible (refine (kl _).mono ?_); rintro _ _ ⟨rfl, k0, rfl⟩; replace hG := Lib.hid (below_drewN hG.out k0)) | (go_at_call 174; with_reducible (refine (kr _).mono ?_); rintro _ _ ⟨rfl, hb⟩; replace hG := Lib.hid (grow_trans hG.out hb); clear hb) | (go_at_call 67; with_reducible (refine (kx _ (tabs_keep hG.out HT.out)).mono ?_); rintro _ _ ⟨rfl, hb⟩; replace hG := Lib.hid (grow_trans hG.out hb); clear hb))
                      go_ret2
                      exact ⟨by rw [hres]; rfl, hG.out⟩
              · have kt := fun w h2 => atoi_far ex hlx h w h2
                rw [← hEX] at kt
                rw [if_pos (.inr h4)] at hF
                obtain ⟨m0, hm0⟩ : ∃ n, n = dval od := ⟨_, rfl⟩
                rw [← hm0] at ku
                clear hS kraw htm hnl hex0 hlo hlx hlS hOD hEX hE c1 c2 c3 c4 c1d c1n h1m hpm2 hat HT hm0 h h4 c5
                go_enter Tryz.func171, Tryz.ntmps171
                go_wp2_with (first | (go_at_call 51; first | (with_reducible (refine (kp1 _).mono ?_); rintro _ _ ⟨rfl, rfl⟩) | (with_reducible (refine (kp2 _).mono ?_); rintro _ _ ⟨rfl, rfl⟩)) | (go_at_call 28; with_reducible (refine (kc _).mono ?_); rintro _ _ ⟨rfl, hb⟩; replace hG := Lib.hid (grow_trans hG.out hb); clear hb) | (go_at_call 182; first | (with_reducible (refine (kd _).mono ?_); rintro _ _ ⟨rfl, hb⟩; replace hG := Lib.hid (grow_trans hG.out hb); clear hb) | (with_reducible (refine (ke _).mono ?_); rintro _ _ ⟨rfl, hb⟩; replace hG := Lib.hid (grow_trans hG.out hb); clear hb)) | (go_at_call 133; with_reducible (refine (kix _).mono ?_); rintro _ _ ⟨rfl, rfl⟩) | (go_at_call 183; with_reducible (refine (ku _).mono ?_); rintro _ _ ⟨rfl, hb⟩; replace hG := Lib.hid (grow_trans hG.out hb); clear hb) | (go_at_call 80; refine (kt _ (err_keep hG.out HE.out)).mono ?_; rintro _ _ ⟨⟨an, av, aa, rfl⟩, hb⟩; replace hG := Lib.hid (grow_trans hG.out hb); clear hb))
                go_ret2
                exact ⟨by rw [hF]; rfl, hG.out⟩
            · rw [if_neg c5] at hpm2
              rw [if_pos (.inl (by omega))] at hF
              have ku := fun w h2 => uint_range od c1n hlo c1d hpm2 w h2
              rw [← hOD] at ku
              rcases hat c3 with h | ⟨h, h4⟩
              · have kt := fun w => atoi_fits ex hlx h w
                rw [← hEX] at kt
                obtain ⟨n, hnn⟩ : ∃ n, n = expOf ex := ⟨_, rfl⟩
                rw [← hnn] at kt
                clear hS kraw htm hnl hex0 hlo hlx hlS hOD hEX hE c1 c2 c3 c4 c1d c1n h1m hpm2 hat HT hnn h c5
                go_enter Tryz.func171, Tryz.ntmps171
                go_wp2_with (first | (go_at_call 51; first | (with_reducible (refine (kp1 _).mono ?_); rintro _ _ ⟨rfl, rfl⟩) | (with_reducible (refine (kp2 _).mono ?_); rintro _ _ ⟨rfl, rfl⟩)) | (go_at_call 28; with_reducible (refine (kc _).mono ?_); rintro _ _ ⟨rfl, hb⟩; replace hG := Lib.hid (grow_trans hG.out hb); clear hb) | (go_at_call 182; first | (with_reducible (refine (kd _).mono ?_); rintro _ _ ⟨rfl, hb⟩; replace hG := Lib.hid (grow_trans hG.out hb); clear hb) | (with_reducible (refine (ke _).mono ?_); rintro _ _ ⟨rfl, hb⟩; replace hG := Lib.hid (grow_trans hG.out hb); clear hb)) | (go_at_call 133; with_reducible (refine (kix _).mono ?_); rintro _ _ ⟨rfl, rfl⟩) | (go_at_call 183; refine (ku _ (err_keep hG.out HE.out)).mono ?_; rintro _ _ ⟨⟨uv, ua, rfl⟩, hb⟩; replace hG := Lib.hid (grow_trans hG.out hb); clear hb) | (go_at_call 80; with_reducible (refine (kt _).mono ?_); rintro _ _ ⟨rfl, hb⟩; replace hG := Lib.hid (grow_trans hG.out hb); clear hb))
                go_ret2
                exact ⟨by rw [hF]; rfl, hG.out⟩
              · have kt := fun w h2 => atoi_far ex hlx h w h2
                rw [← hEX] at kt
                clear hS kraw htm hnl hex0 hlo hlx hlS hOD hEX hE c1 c2 c3 c4 c1d c1n h1m hpm2 hat HT h h4 c5
                go_enter Tryz.func171, Tryz.ntmps171
                go_wp2_with (first | (go_at_call 51; first | (with_reducible (refine (kp1 _).mono ?_); rintro _ _ ⟨rfl, rfl⟩) | (with_reducible (refine (kp2 _).mono ?_); rintro _ _ ⟨rfl, rfl⟩)) | (go_at_call 28; with_reducible (refine (kc _).mono ?_); rintro _ _ ⟨rfl, hb⟩; replace hG := Lib.hid (grow_trans hG.out hb); clear hb) | (go_at_call 182; first | (with_reducible (refine (kd _).mono ?_); rintro _ _ ⟨rfl, hb⟩; replace hG := Lib.hid (grow_trans hG.out hb); clear hb) | (with_reducible (refine (ke _).mono ?_); rintro _ _ ⟨rfl, hb⟩; replace hG := Lib.hid (grow_trans hG.out hb); clear hb)) | (go_at_call 133; with_reducible (refine (kix _).mono ?_); rintro _ _ ⟨rfl, rfl⟩) | (go_at_call 183; refine (ku _ (err_keep hG.out HE.out)).mono ?_; rintro _ _ ⟨⟨uv, ua, rfl⟩, hb⟩; replace hG := Lib.hid (grow_trans hG.out hb); clear hb) | (go_at_call 80; refine (kt _ (err_keep hG.out HE.out)).mono ?_; rintro _ _ ⟨⟨an, av, aa, rfl⟩, hb⟩; replace hG := Lib.hid (grow_trans hG.out hb); clear hb))
                go_ret2
                exact ⟨by rw [hF]; rfl, hG.out⟩
end Go.Proofs.YtdkencepmdfacaaGreatDoor
