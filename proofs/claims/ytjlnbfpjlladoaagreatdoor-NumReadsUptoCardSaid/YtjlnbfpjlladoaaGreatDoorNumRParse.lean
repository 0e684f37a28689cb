/- The document's Parse (contract): it answers 'fparse'. -/
import Derived.Test.YtjlnbfpjlladoaaGreatDoorJe
import Derived.Test.YtjlnbfpjlladoaaGreatDoorNumRRun
import Derived.Test.YtjlnbfpjlladoaaGreatDoorNumRText
import Derived.Test.YtjlnbfpjlladoaaGreatDoorNumRound
set_option maxRecDepth 100000
namespace Go.Proofs.YtjlnbfpjlladoaaGreatDoor
open Go.RowKit Ieee
theorem str_slice {l : List UInt8} {i : Nat} (h : i ≤ l.length) (w : World) : (Instr.slice 9 (.string (strOf l)) (some (.int .i64 ((i : Nat) : Int))) none none).run Tryz.prog w = .ok (.string (strOf (l.drop i))) w := by
  have hsz : (strOf l).size = l.length := by rw [ba_size]
  rw [run_slice_string_l w 9 (strOf l) Tryz.underlying9 .i64 ((i : Nat) : Int) (by omega) (by rw [hsz]; omega), Int.toNat_natCast]
  congr 2
  apply ByteArray.ext
  rw [ByteArray.data_extract, hsz]
  unfold strOf
  simp
  exact List.take_of_length_le (by rw [List.length_drop]; exact Nat.le_refl _)
def words5 : Array Value := #[.int .u64 9221120237041090561, .int .u64 9218868437227405312, .int .u64 18442240474082181120, .int .u64 0, .int .u64 9223372036854775808]
theorem words_at {i : Nat} (h : i < 5) : words5[i]? = some (.int .u64 ((word5 i : Nat) : Int)) := by
  rcases (show i = 0 ∨ i = 1 ∨ i = 2 ∨ i = 3 ∨ i = 4 by omega) with rfl | rfl | rfl | rfl | rfl <;> rfl
set_option maxHeartbeats 8000000 in
set_option maxRecDepth 100000 in
theorem rparse_any {l : List UInt8} (hs : l.length < 1073741824) (w : World) :
    Calls Tryz.prog 37 #[.string (strOf l)] w fun e w' => e = .returned (.tuple #[.int .u64 (((fparse l).1 : Nat) : Int), .int .i64 (fparse l).2]) ∧ Below w.heap.size w w' := by
  have HFL : Hid (∀ k, k < 5 → ftext (word5 k) = l → fparse l = (word5 k, 0)) := fun k hk h => words_parse _ (word5_ok hk).1 (word5_ok hk).2 h
  have HFN := Lib.hid (@word5_none l)
  obtain ⟨V, hV⟩ : ∃ V, V = fparse l := ⟨_, rfl⟩
  rw [← hV] at HFL HFN ⊢
  clear hV
  obtain ⟨S, hS⟩ : ∃ S, S = strOf l := ⟨_, rfl⟩
  rw [← hS]
  have hsz : S.size = l.length := by rw [hS, ba_size]
  have HS := Lib.hid hS
  clear hS
  go_enter Tryz.func37, Tryz.ntmps37
  go_upto_region 2 with fail
  have hL0 := Cells.new w 22 words5
  have hB0 := (Below.refl w.heap.size w).alloc (Nat.le_refl _) (.cells words5 22)
  unfold words5 at hL0 hB0
  obtain ⟨w1, hw1⟩ : ∃ w1, w1 = w.alloc (.cells #[.int .u64 9221120237041090561, .int .u64 9218868437227405312, .int .u64 18442240474082181120, .int .u64 0, .int .u64 9223372036854775808] 22) := ⟨_, rfl⟩
  rw [← hw1] at hL0 hB0 ⊢
  have HL := Lib.hid hL0
  have HB0 := Lib.hid hB0
  obtain ⟨g1, hg1⟩ : ∃ g1, g1 = w.heap.size := ⟨_, rfl⟩
  rw [← hg1] at HL ⊢
  clear hw1 hL0 hB0
  go_wp2
  go_loopw [5] (fun v wr => ∃ i : Nat, v = .int .i64 ((i : Nat) : Int) ∧ i ≤ 5 ∧ Hid (Cells wr g1 22 words5) ∧ Hid (Below w.heap.size w wr) ∧ Hid (∀ k, k < i → ftext (word5 k) ≠ l)) (fun v _ => 10 - (intOf v).toNat)
  case atStart => exact ⟨0, rfl, by omega, HL, HB0, fun k hk => absurd hk (Nat.not_lt_zero _)⟩
  case round =>
    obtain ⟨i, rfl, hi, HA, HB, HN⟩ := hrel
    clear HL HB0 hg1
    by_cases c : i < 5
    · have d0 := Cells.cell HA.out (words_at c)
      have i0 : (0 : Int) ≤ ((i : Nat) : Int) := by omega
      have i1 : ((i : Nat) : Int) < 5 := by omega
      have hw1 : IntKind.i64.wrap (((i : Nat) : Int) + 1) = ((i : Nat) : Int) + 1 := by
        rw [IntKind.wrap_i64]
        omega
      have kt := fun w => rtext_any (word5_ok c).1 w
      obtain ⟨TX, hTX⟩ : ∃ z : ByteArray, z = ⟨(ftext (word5 i)).toArray⟩ := ⟨_, rfl⟩
      rw [← hTX] at kt
      have hcmp : (TX.toList == S.toList) = decide (ftext (word5 i) = l) := by
        rw [hTX, HS.out, show (⟨(ftext (word5 i)).toArray⟩ : ByteArray) = strOf (ftext (word5 i)) from rfl, str_toList, str_toList]
        exact Bool.eq_iff_iff.2 (by simp)
      have HC := Lib.hid (words_at c)
      have hl1 := HFL.out i c
      obtain ⟨z, hz⟩ : ∃ z : Int, z = ((word5 i : Nat) : Int) := ⟨_, rfl⟩
      rw [← hz] at kt d0 HC
      have hG := Lib.hid (Below.refl wr.heap.size wr)
      have TARM : True := trivial
      by_cases e : ftext (word5 i) = l
      · rw [decide_eq_true e] at hcmp
        have hF := Lib.hid (hl1 e)
        have HZ := Lib.hid hz
        clear hTX e hl1 HFL HFN HN hz
        go_wp2_with (go_at_call 65; with_reducible (refine (kt _).mono ?_); rintro _ _ ⟨rfl, hb⟩; have d1 := Cells.cell (Cells.keep HA.out hb) HC.out; replace hG := Lib.hid (grow_trans hG.out hb); clear hb)
        go_ret2
        exact ⟨by rw [hF.out, HZ.out]; rfl, grow_trans HB.out hG.out⟩
      · rw [decide_eq_false e] at hcmp
        have HN2 : Hid (∀ k, k < i + 1 → ftext (word5 k) ≠ l) := fun k hk => by
          by_cases q : k = i
          · rw [q]
            exact e
          · exact HN.out k (by omega)
        clear hTX e hl1 HFL HFN HN hz
        go_wp2_with (go_at_call 65; with_reducible (refine (kt _).mono ?_); rintro _ _ ⟨rfl, hb⟩; have HA2 := Lib.hid (Cells.keep HA.out hb); replace hG := Lib.hid (grow_trans hG.out hb); clear hb)
        go_roundw
        case rel => exact ⟨i + 1, by first | rfl | simp, by omega, HA2, Lib.hid (grow_trans HB.out hG.out), HN2⟩
        case measure => simp [intOf]; omega
    · have hi5 : i = 5 := by omega
      subst hi5
      have hFT : V = tailV (Lib.hasPrefix l [45]) (Lib.trimPrefix l [45]) := HFN.out HN.out
      have hG := HB
      clear HFL HFN HN HA hi HB
      rw [show ((5 : Nat) : Int) = 5 from rfl]
      cases hlc : l with
      | nil =>
        have ES : S = strOf [] := by rw [HS.out, hlc]
        have kr : ∀ w, Calls Tryz.prog 66 #[.string S] w fun e w' => e = .returned (.tuple #[.int .i64 0, .int .u64 0, .bool false]) ∧ Below w.heap.size w w' := fun w => by
          rw [ES]
          exact run_any (l := []) (by decide) w
        have kr2 := kr
        have hS0 : S.size = 0 := by rw [hsz, hlc]; rfl
        have hbad : tailV (Lib.hasPrefix l [45]) (Lib.trimPrefix l [45]) = (0, 10) := by
          rw [hlc]
          rfl
        rw [hbad] at hFT
        have HF := Lib.hid hFT
        clear hFT hbad hlc ES HS hsz hs
        go_wp2_with (first | (go_at_call 66; first | (with_reducible (refine (kr _).mono ?_); rintro _ _ ⟨rfl, hb⟩; replace hG := Lib.hid (grow_trans hG.out hb); clear hb) | (with_reducible (refine (kr2 _).mono ?_); rintro _ _ ⟨rfl, hb⟩; replace hG := Lib.hid (grow_trans hG.out hb); clear hb)))
        go_ret2
        exact ⟨by rw [HF.out]; rfl, hG.out⟩
      | cons c0 r =>
        have hx0 : 0 < l.length := by rw [hlc]; exact Nat.succ_pos _
        have hxp : (0 : Int) < ((S.size : Nat) : Int) := by omega
        have hS := HS.out
        have hixa := fun w => str_index hx0 w
        have hgx : l[0]'hx0 = c0 := by simp [hlc]
        rw [hgx, ← hS, show ((0 : Nat) : Int) = 0 from rfl] at hixa
        by_cases c5 : c0 = 45
        · have hsla := fun w => str_slice (l := l) (i := 1) (by omega) w
          rw [hlc, List.drop_succ_cons, List.drop_zero, ← hlc, ← hS, show ((1 : Nat) : Int) = 1 from rfl] at hsla
          rw [c5, show (((45 : UInt8).toNat : Nat) : Int) = 45 from rfl] at hixa
          have hxs : (1 : Int) ≤ ((S.size : Nat) : Int) := by omega
          have hst := strip_minus r
          have hF : V = tailV true r := by
            rw [hFT, hlc, c5, hst.1, hst.2]
          have htl : r.length < 1073741824 := by
            rw [hlc, List.length_cons] at hs
            omega
          obtain ⟨TT, hTS⟩ : ∃ x, x = strOf r := ⟨_, rfl⟩
          rw [← hTS] at hsla
          clear hFT hst hgx hlc hS HS hs
          obtain ⟨t, rfl⟩ : ∃ t, t = r := ⟨_, rfl⟩
          have kr := fun w => run_any htl w
          have hTsz : TT.size = t.length := by rw [hTS, ba_size]
          rw [← hTS] at kr
          have hlt := lead_le t
          cases c1 : canonB (t.take (lead t)) with
          | false =>
            rw [c1] at kr
            rw [tail_bad (.inl c1)] at hF
            have HF := Lib.hid hF
            have kr2 := kr
            clear hF c1 hTS
            go_wp2_with (first | (go_at_call 66; first | (with_reducible (refine (kr _).mono ?_); rintro _ _ ⟨rfl, hb⟩; replace hG := Lib.hid (grow_trans hG.out hb); clear hb) | (with_reducible (refine (kr2 _).mono ?_); rintro _ _ ⟨rfl, hb⟩; replace hG := Lib.hid (grow_trans hG.out hb); clear hb)))
            go_ret2
            exact ⟨by rw [HF.out]; rfl, hG.out⟩
          | true =>
            have hll := lead_last c1
            rw [c1] at kr
            obtain ⟨k0, hk, q1, q2, q3⟩ := hll
            have hixn := fun w => str_index hk w
            rw [← hTS, show (((lead t - 1 : Nat)) : Int) = ((lead t : Nat) : Int) - 1 by omega] at hixn
            have hwm : IntKind.i64.wrap (((lead t : Nat) : Int) - 1) = ((lead t : Nat) : Int) - 1 := by
              rw [IntKind.wrap_i64]
              omega
            obtain ⟨cn, hcn⟩ : ∃ z : Nat, z = (t[lead t - 1]'hk).toNat := ⟨_, rfl⟩
            rw [← hcn] at hixn q1 q2 q3
            clear hcn
            have hw8 : IntKind.u8.wrap (((cn : Nat) : Int) - 48) = ((cn : Nat) : Int) - 48 := by
              rw [IntKind.wrap_u8]
              omega
            by_cases c2 : dval (t.take (lead t)) % 2 = 0
            · rw [tail_bad (.inr (.inl c2))] at hF
              have HF := Lib.hid hF
              have kr2 := kr
              have e1 : (((cn : Nat) : Int) - 48) % 2 = 0 := by omega
              have e2 : Int.tmod (((cn : Nat) : Int) - 48) 2 = 0 := by
                rw [Int.tmod_eq_emod_of_nonneg (by omega)]
                exact e1
              clear hF c1 c2 hTS q1 q2 q3
              go_wp2_with (first | (go_at_call 66; first | (with_reducible (refine (kr _).mono ?_); rintro _ _ ⟨rfl, hb⟩; replace hG := Lib.hid (grow_trans hG.out hb); clear hb) | (with_reducible (refine (kr2 _).mono ?_); rintro _ _ ⟨rfl, hb⟩; replace hG := Lib.hid (grow_trans hG.out hb); clear hb)))
              go_ret2
              exact ⟨by rw [HF.out]; rfl, hG.out⟩
            have e1 : (((cn : Nat) : Int) - 48) % 2 = 1 := by omega
            have e2 : Int.tmod (((cn : Nat) : Int) - 48) 2 = 1 := by
              rw [Int.tmod_eq_emod_of_nonneg (by omega)]
              exact e1
            clear q1 q2 q3
            by_cases c3 : lead t < t.length
            · have hixp := fun w => str_index c3 w
              rw [← hTS] at hixp
              have ct1 : (((lead t : Nat) : Int) == ((TT.size : Nat) : Int)) = false := beq_eq_false_iff_ne.2 (by omega)
              have ct2 : ((lead t : Nat) : Int) < ((TT.size : Nat) : Int) := by omega
              by_cases c4 : t[lead t]'c3 = 112
              · rw [c4, show (((112 : UInt8).toNat : Nat) : Int) = 112 from rfl] at hixp
                have hF2 := tail_good (sg := true) c3 c4
                rw [hF2] at hF
                have hsl2 := fun w => str_slice (l := t) (i := lead t + 1) (by omega) w
                rw [← hTS, show (((lead t + 1 : Nat)) : Int) = ((lead t : Nat) : Int) + 1 by omega] at hsl2
                have hwn : IntKind.i64.wrap (((lead t : Nat) : Int) + 1) = ((lead t : Nat) : Int) + 1 := by
                  rw [IntKind.wrap_i64]
                  omega
                have hexl : (t.drop (lead t + 1)).length < 1073741824 := by
                  rw [List.length_drop]
                  omega
                have hso := sat_or (t.take (lead t))
                have hsle := sat_le (t.take (lead t))
                obtain ⟨ex, hex⟩ : ∃ x, x = t.drop (lead t + 1) := ⟨_, rfl⟩
                obtain ⟨od, hod⟩ : ∃ x, x = t.take (lead t) := ⟨_, rfl⟩
                obtain ⟨n, hn⟩ : ∃ x, x = lead t := ⟨_, rfl⟩
                rw [← hex] at hF hsl2 hexl
                rw [← hod] at hF hso hsle kr c1 c2
                rw [← hn] at hsl2 hwn kr ct2 hixn hixp ct1 hwm
                clear hF2 hex hod hTS
                obtain ⟨EX, hEX⟩ : ∃ x, x = strOf ex := ⟨_, rfl⟩
                rw [← hEX] at hsl2
                obtain ⟨sm, hsm⟩ : ∃ x, x = sat od := ⟨_, rfl⟩
                rw [← hsm] at hso hsle kr
                have hxsz : EX.size = ex.length := by rw [hEX, ba_size]
                cases hxc : ex with
                | nil =>
                  have EEX : EX = strOf [] := by rw [hEX, hxc]
                  have kr2 : ∀ w, Calls Tryz.prog 66 #[.string EX] w fun e w' => e = .returned (.tuple #[.int .i64 0, .int .u64 0, .bool false]) ∧ Below w.heap.size w w' := fun w => by
                    rw [EEX]
                    exact run_any (l := []) (by decide) w
                  have hx0 : EX.size = 0 := by rw [hxsz, hxc]; rfl
                  have hbad : fparse.fparse2 true od ex = (0, 10) := by
                    unfold fparse.fparse2
                    rw [hxc]
                    exact if_pos (.inr (.inr (.inl rfl)))
                  rw [hbad] at hF
                  have HF := Lib.hid hF
                  clear hF hbad hso hsle hsm c1 c2 hxc hEX EEX hxsz hexl hn
                  go_wp2_with (first | (go_at_call 66; first | (with_reducible (refine (kr _).mono ?_); rintro _ _ ⟨rfl, hb⟩; replace hG := Lib.hid (grow_trans hG.out hb); clear hb) | (with_reducible (refine (kr2 _).mono ?_); rintro _ _ ⟨rfl, hb⟩; replace hG := Lib.hid (grow_trans hG.out hb); clear hb)))
                  go_ret2
                  exact ⟨by rw [HF.out]; rfl, hG.out⟩
                | cons c0 r =>
                  have hx0 : 0 < ex.length := by rw [hxc]; exact Nat.succ_pos _
                  have hix0 := fun w => str_index hx0 w
                  have hgx : ex[0]'hx0 = c0 := by simp [hxc]
                  rw [hgx, ← hEX, show ((0 : Nat) : Int) = 0 from rfl] at hix0
                  have hxp : (0 : Int) < ((EX.size : Nat) : Int) := by omega
                  by_cases c5 : c0 = 45
                  · have hsl3 := fun w => str_slice (l := ex) (i := 1) (by omega) w
                    have hxs1 : (1 : Int) ≤ ((EX.size : Nat) : Int) := by omega
                    rw [hxc, List.drop_succ_cons, List.drop_zero, ← hxc, ← hEX, show ((1 : Nat) : Int) = 1 from rfl] at hsl3
                    rw [c5, show (((45 : UInt8).toNat : Nat) : Int) = 45 from rfl] at hix0
                    have hst := strip_minus r
                    have hpp : Lib.hasPrefix ex [45] = true ∧ Lib.trimPrefix ex [45] = r := by
                      rw [hxc, c5]
                      exact hst
                    have hrl : r.length < 1073741824 := by
                      rw [hxc, List.length_cons] at hexl
                      omega
                    clear hst
                    have hF3 : fparse.fparse2 true od ex = if canonB od = false ∨ dval od % 2 = 0 ∨ canonB (Lib.trimPrefix ex [45]) = false ∨ (Lib.hasPrefix ex [45] = true ∧ Lib.trimPrefix ex [45] = [48]) then (0, 10) else if 9007199254740992 ≤ dval od ∨ 4000 < dval (Lib.trimPrefix ex [45]) then (0, 11) else if expOf ex < -1074 ∨ D.nearest false (dval od) (expOf ex) = infB then (0, 11) else (D.word true (D.nearest false (dval od) (expOf ex)), 0) := rfl
                    have hexp : expOf ex = if Lib.hasPrefix ex [45] = true then -((dval (Lib.trimPrefix ex [45]) : Nat) : Int) else ((dval (Lib.trimPrefix ex [45]) : Nat) : Int) := rfl
                    rw [hpp.1, hpp.2] at hF3 hexp
                    rw [hF3] at hF
                    have kr2 := fun w => run_any hrl w
                    have hso2 := sat_or (r.take (lead r))
                    have hsle2 := sat_le (r.take (lead r))
                    obtain ⟨E2, hE2⟩ : ∃ x, x = strOf r := ⟨_, rfl⟩
                    have he2 : E2.size = r.length := by rw [hE2, ba_size]
                    rw [← hE2] at kr2 hsl3
                    obtain ⟨se, hse⟩ : ∃ x, x = sat (r.take (lead r)) := ⟨_, rfl⟩
                    rw [← hse] at kr2 hso2 hsle2
                    
                    cases c6 : canonB (r.take (lead r)) with
                    | false =>
                      rw [c6] at kr2
                      rw [if_pos (.inr (.inr (.inl (canon_lead_no (.inl c6)))))] at hF
                      have HF := Lib.hid hF
                      clear hF hF3 hexp hso hsle hsm c1 c2 hxc hEX hxsz hexl hn hpp hso2 hsle2 hse he2 hE2 c6
                      go_wp2_with (first | (go_at_call 66; first | (with_reducible (refine (kr _).mono ?_); rintro _ _ ⟨rfl, hb⟩; replace hG := Lib.hid (grow_trans hG.out hb); clear hb) | (with_reducible (refine (kr2 _).mono ?_); rintro _ _ ⟨rfl, hb⟩; replace hG := Lib.hid (grow_trans hG.out hb); clear hb)))
                      go_ret2
                      exact ⟨by rw [HF.out]; rfl, hG.out⟩
                    | true =>
                      rw [c6] at kr2
                      by_cases c7 : lead r < r.length
                      · rw [if_pos (.inr (.inr (.inl (canon_lead_no (.inr c7)))))] at hF
                        have HF := Lib.hid hF
                        have c7i : ((lead r : Nat) : Int) < ((E2.size : Nat) : Int) := by omega
                        obtain ⟨n2, hn2⟩ : ∃ x, x = lead r := ⟨_, rfl⟩
                        rw [← hn2] at kr2 c7i
                        clear hF hF3 hexp hso hsle hsm c1 c2 hxc hEX hxsz hexl hn hpp hso2 hsle2 hse he2 hE2 c6 c7 hn2
                        go_wp2_with (first | (go_at_call 66; first | (with_reducible (refine (kr _).mono ?_); rintro _ _ ⟨rfl, hb⟩; replace hG := Lib.hid (grow_trans hG.out hb); clear hb) | (with_reducible (refine (kr2 _).mono ?_); rintro _ _ ⟨rfl, hb⟩; replace hG := Lib.hid (grow_trans hG.out hb); clear hb)))
                        go_ret2
                        exact ⟨by rw [HF.out]; rfl, hG.out⟩
                      · have hle2 := lead_le r
                        have hlen : lead r = r.length := by omega
                        rw [hlen, List.take_length] at c6 hso2 hse
                        have c7i : ¬ ((lead r : Nat) : Int) < ((E2.size : Nat) : Int) := by omega
                        obtain ⟨n2, hn2⟩ : ∃ x, x = lead r := ⟨_, rfl⟩
                        rw [← hn2] at kr2 c7i
                        have hz := canon_sat_zero c6
                        rw [← hse] at hz
                        clear c7 hle2 hlen hn2
                        by_cases c8 : se = 0
                        · rw [if_pos (.inr (.inr (.inr ⟨rfl, hz.1 c8⟩)))] at hF
                          have HF := Lib.hid hF
                          rw [c8, show ((0 : Nat) : Int) = 0 from rfl] at kr2
                          clear hF hF3 hexp hso hsle hsm c1 c2 hxc hEX hxsz hexl hn hpp hso2 hsle2 hse he2 hE2 c6 c8 hz
                          go_wp2_with (first | (go_at_call 66; first | (with_reducible (refine (kr _).mono ?_); rintro _ _ ⟨rfl, hb⟩; replace hG := Lib.hid (grow_trans hG.out hb); clear hb) | (with_reducible (refine (kr2 _).mono ?_); rintro _ _ ⟨rfl, hb⟩; replace hG := Lib.hid (grow_trans hG.out hb); clear hb)))
                          go_ret2
                          exact ⟨by rw [HF.out]; rfl, hG.out⟩
                        have c8i : (((se : Nat) : Int) == 0) = false := beq_eq_false_iff_ne.2 (by omega)
                        have hn1 : ¬ (canonB od = false ∨ dval od % 2 = 0 ∨ canonB r = false ∨ (true = true ∧ r = [48])) := by
                          rintro (h | h | h | h)
                          · rw [c1] at h
                            cases h
                          · exact c2 h
                          · rw [c6] at h
                            cases h
                          · exact c8 (hz.2 h.2)
                        rw [if_neg hn1] at hF
                        clear hn1 hz
                        by_cases c9 : 9007199254740992 ≤ sm
                        · rw [if_pos (.inl (by omega))] at hF
                          have HF := Lib.hid hF
                          have c9i : (9007199254740992 : Int) ≤ ((sm : Nat) : Int) := by omega
                          clear hF hF3 hexp hso hsle hsm c1 c2 hxc hEX hxsz hexl hn hpp hso2 hsle2 hse he2 hE2 c6 c9
                          go_wp2_with (first | (go_at_call 66; first | (with_reducible (refine (kr _).mono ?_); rintro _ _ ⟨rfl, hb⟩; replace hG := Lib.hid (grow_trans hG.out hb); clear hb) | (with_reducible (refine (kr2 _).mono ?_); rintro _ _ ⟨rfl, hb⟩; replace hG := Lib.hid (grow_trans hG.out hb); clear hb)))
                          go_ret2
                          exact ⟨by rw [HF.out]; rfl, hG.out⟩
                        have hdm : dval od = sm := by omega
                        have c9i : decide ((9007199254740992 : Int) ≤ ((sm : Nat) : Int)) = false := decide_eq_false (by omega)
                        by_cases c10 : 4000 < se
                        · rw [if_pos (.inr (by omega))] at hF
                          have HF := Lib.hid hF
                          have c10i : (4000 : Int) < ((se : Nat) : Int) := by omega
                          clear hF hF3 hexp hso hsle hsm c1 c2 hxc hEX hxsz hexl hn hpp hso2 hsle2 hse he2 hE2 c6 c9 c10 hdm
                          go_wp2_with (first | (go_at_call 66; first | (with_reducible (refine (kr _).mono ?_); rintro _ _ ⟨rfl, hb⟩; replace hG := Lib.hid (grow_trans hG.out hb); clear hb) | (with_reducible (refine (kr2 _).mono ?_); rintro _ _ ⟨rfl, hb⟩; replace hG := Lib.hid (grow_trans hG.out hb); clear hb)))
                          go_ret2
                          exact ⟨by rw [HF.out]; rfl, hG.out⟩
                        have hde : dval r = se := by omega
                        have c10i : ¬ (4000 : Int) < ((se : Nat) : Int) := by omega
                        rw [if_neg (by rintro (h | h) <;> omega)] at hF
                        rw [hde] at hexp
                        rw [hdm] at hF c2
                        have hw64 : IntKind.i64.wrap ((se : Nat) : Int) = ((se : Nat) : Int) := by
                          rw [IntKind.wrap_i64]
                          omega
                        rw [if_pos rfl] at hexp
                        have hwn2 : IntKind.i64.wrap (-((se : Nat) : Int)) = -((se : Nat) : Int) := by
                          rw [IntKind.wrap_i64]
                          omega
                        by_cases c11 : -((se : Nat) : Int) < -1074
                        · rw [hexp, if_pos (.inl c11)] at hF
                          have HF := Lib.hid hF
                          clear hF hF3 hexp hso hsle hsm c1 c2 hxc hEX hxsz hexl hn hpp hso2 hsle2 hse he2 hE2 c6 c9 c10 hdm hde
                          go_wp2_with (first | (go_at_call 66; first | (with_reducible (refine (kr _).mono ?_); rintro _ _ ⟨rfl, hb⟩; replace hG := Lib.hid (grow_trans hG.out hb); clear hb) | (with_reducible (refine (kr2 _).mono ?_); rintro _ _ ⟨rfl, hb⟩; replace hG := Lib.hid (grow_trans hG.out hb); clear hb)))
                          go_ret2
                          exact ⟨by rw [HF.out]; rfl, hG.out⟩
                        rw [hexp] at hF
                        have hnl := nearest_le sm (-((se : Nat) : Int))
                        obtain ⟨wf1, wf2, wf3⟩ := word_facts true hnl
                        have hsm0 : sm ≠ 0 := by omega
                        have kro := fun w => rounded_any true false (w := sm) (e := (-((se : Nat) : Int))) (by omega) (by omega) (by omega) w
                        rw [rnd_nearest true (-((se : Nat) : Int)) hsm0 (by omega)] at kro
                        have hwn : D.word true (D.nearest false sm (-((se : Nat) : Int))) = D.nearest true sm (-((se : Nat) : Int)) := by
                          obtain ⟨r, h1, h2⟩ := nearest_rung false sm (-((se : Nat) : Int))
                          rw [h2 false, h2 true, word_f]
                        rw [← hwn] at kro
                        have hwv : wv sm = .agg #[.int .u64 0, .int .u64 ((sm : Nat) : Int)] := by
                          unfold wv
                          rw [Nat.div_eq_of_lt (by omega), Nat.mod_eq_of_lt (by omega)]
                          rfl
                        rw [hwv] at kro
                        have hwlt : D.word true (D.nearest false sm (-((se : Nat) : Int))) < 18446744073709551616 := by
                          have := word_sgn true (D.nearest false sm (-((se : Nat) : Int)))
                          have h2 : sgn true ≤ 9223372036854775808 := by decide
                          have h3 : infB = 9218868437227405312 := rfl
                          omega
                        have fA := andNot_sign (D.word true (D.nearest false sm (-((se : Nat) : Int)))) hwlt
                        have wf4 : D.word true (D.nearest false sm (-((se : Nat) : Int))) % 9223372036854775808 = D.nearest false sm (-((se : Nat) : Int)) := wf3
                        rw [wf4] at fA
                        obtain ⟨r, hr⟩ : ∃ x, x = D.nearest false sm (-((se : Nat) : Int)) := ⟨_, rfl⟩
                        rw [← hr] at hF kro fA
                        obtain ⟨wd, hwd⟩ : ∃ x, x = D.word true r := ⟨_, rfl⟩
                        rw [← hwd] at hF kro fA
                        rw [show ((sgn true : Nat) : Int) = 9223372036854775808 from rfl] at kro
                        clear wf1 wf2 wf3 wf4 hnl hwn hwv hwlt hr hwd
                        by_cases c12 : r = infB
                        · rw [if_pos (.inr c12)] at hF
                          rw [c12, show ((infB : Nat) : Int) = 9218868437227405312 from rfl] at fA
                          have HF := Lib.hid hF
                          clear hF hF3 hexp hso hsle hsm c1 c2 hxc hEX hxsz hexl hn hpp hso2 hsle2 hse he2 hE2 c6 c9 c10 hdm hde c12 hsm0
                          go_wp2_with (first | (go_at_call 66; first | (with_reducible (refine (kr _).mono ?_); rintro _ _ ⟨rfl, hb⟩; replace hG := Lib.hid (grow_trans hG.out hb); clear hb) | (with_reducible (refine (kr2 _).mono ?_); rintro _ _ ⟨rfl, hb⟩; replace hG := Lib.hid (grow_trans hG.out hb); clear hb)) | (go_at_call 44; with_reducible (refine (kro _).mono ?_); rintro _ _ ⟨rfl, hb⟩; replace hG := Lib.hid (grow_trans hG.out hb); clear hb))
                          go_ret2
                          exact ⟨by rw [HF.out]; rfl, hG.out⟩
                        · rw [if_neg (by rintro (h | h); exact c11 h; exact c12 h)] at hF
                          have h3 : infB = 9218868437227405312 := rfl
                          have hri : (((r : Nat) : Int) == 9218868437227405312) = false := beq_eq_false_iff_ne.2 fun h => c12 (by omega)
                          clear h3
                          have HF := Lib.hid hF
                          clear hF hF3 hexp hso hsle hsm c1 c2 hxc hEX hxsz hexl hn hpp hso2 hsle2 hse he2 hE2 c6 c9 c10 hdm hde c12 hsm0
                          go_wp2_with (first | (go_at_call 66; first | (with_reducible (refine (kr _).mono ?_); rintro _ _ ⟨rfl, hb⟩; replace hG := Lib.hid (grow_trans hG.out hb); clear hb) | (with_reducible (refine (kr2 _).mono ?_); rintro _ _ ⟨rfl, hb⟩; replace hG := Lib.hid (grow_trans hG.out hb); clear hb)) | (go_at_call 44; with_reducible (refine (kro _).mono ?_); rintro _ _ ⟨rfl, hb⟩; replace hG := Lib.hid (grow_trans hG.out hb); clear hb))
                          go_ret2
                          exact ⟨by rw [HF.out]; rfl, hG.out⟩
                  · have hpp : Lib.hasPrefix ex [45] = false ∧ Lib.trimPrefix ex [45] = ex := by
                      rw [hxc]
                      exact strip_other c5
                    have hc5 : (((c0.toNat : Nat) : Int) == 45) = false := beq_eq_false_iff_ne.2 fun h => c5 (UInt8.toNat_inj.1 (by show c0.toNat = 45; omega))
                    obtain ⟨ci, hci⟩ : ∃ z : Int, z = ((c0.toNat : Nat) : Int) := ⟨_, rfl⟩
                    rw [← hci] at hc5 hix0
                    have hrl : ex.length < 1073741824 := hexl
                    clear hci
                    have hF3 : fparse.fparse2 true od ex = if canonB od = false ∨ dval od % 2 = 0 ∨ canonB (Lib.trimPrefix ex [45]) = false ∨ (Lib.hasPrefix ex [45] = true ∧ Lib.trimPrefix ex [45] = [48]) then (0, 10) else if 9007199254740992 ≤ dval od ∨ 4000 < dval (Lib.trimPrefix ex [45]) then (0, 11) else if expOf ex < -1074 ∨ D.nearest false (dval od) (expOf ex) = infB then (0, 11) else (D.word true (D.nearest false (dval od) (expOf ex)), 0) := rfl
                    have hexp : expOf ex = if Lib.hasPrefix ex [45] = true then -((dval (Lib.trimPrefix ex [45]) : Nat) : Int) else ((dval (Lib.trimPrefix ex [45]) : Nat) : Int) := rfl
                    rw [hpp.1, hpp.2] at hF3 hexp
                    rw [hF3] at hF
                    have kr2 := fun w => run_any hrl w
                    have hso2 := sat_or (ex.take (lead ex))
                    have hsle2 := sat_le (ex.take (lead ex))
                    obtain ⟨E2, hE2⟩ : ∃ x, x = strOf ex := ⟨_, rfl⟩
                    have he2 : E2.size = ex.length := by rw [hE2, ba_size]
                    rw [← hE2] at kr2
                    obtain ⟨se, hse⟩ : ∃ x, x = sat (ex.take (lead ex)) := ⟨_, rfl⟩
                    rw [← hse] at kr2 hso2 hsle2
                    have hEE : EX = E2 := by rw [hEX, hE2]
                    rw [hEE] at hsl2 hix0 hxp
                    cases c6 : canonB (ex.take (lead ex)) with
                    | false =>
                      rw [c6] at kr2
                      rw [if_pos (.inr (.inr (.inl (canon_lead_no (.inl c6)))))] at hF
                      have HF := Lib.hid hF
                      clear hF hF3 hexp hso hsle hsm c1 c2 hxc hEX hxsz hexl hn hpp hso2 hsle2 hse he2 hE2 c6
                      go_wp2_with (first | (go_at_call 66; first | (with_reducible (refine (kr _).mono ?_); rintro _ _ ⟨rfl, hb⟩; replace hG := Lib.hid (grow_trans hG.out hb); clear hb) | (with_reducible (refine (kr2 _).mono ?_); rintro _ _ ⟨rfl, hb⟩; replace hG := Lib.hid (grow_trans hG.out hb); clear hb)))
                      go_ret2
                      exact ⟨by rw [HF.out]; rfl, hG.out⟩
                    | true =>
                      rw [c6] at kr2
                      by_cases c7 : lead ex < ex.length
                      · rw [if_pos (.inr (.inr (.inl (canon_lead_no (.inr c7)))))] at hF
                        have HF := Lib.hid hF
                        have c7i : ((lead ex : Nat) : Int) < ((E2.size : Nat) : Int) := by omega
                        obtain ⟨n2, hn2⟩ : ∃ x, x = lead ex := ⟨_, rfl⟩
                        rw [← hn2] at kr2 c7i
                        clear hF hF3 hexp hso hsle hsm c1 c2 hxc hEX hxsz hexl hn hpp hso2 hsle2 hse he2 hE2 c6 c7 hn2
                        go_wp2_with (first | (go_at_call 66; first | (with_reducible (refine (kr _).mono ?_); rintro _ _ ⟨rfl, hb⟩; replace hG := Lib.hid (grow_trans hG.out hb); clear hb) | (with_reducible (refine (kr2 _).mono ?_); rintro _ _ ⟨rfl, hb⟩; replace hG := Lib.hid (grow_trans hG.out hb); clear hb)))
                        go_ret2
                        exact ⟨by rw [HF.out]; rfl, hG.out⟩
                      · have hle2 := lead_le ex
                        have hlen : lead ex = ex.length := by omega
                        rw [hlen, List.take_length] at c6 hso2 hse
                        have c7i : ¬ ((lead ex : Nat) : Int) < ((E2.size : Nat) : Int) := by omega
                        obtain ⟨n2, hn2⟩ : ∃ x, x = lead ex := ⟨_, rfl⟩
                        rw [← hn2] at kr2 c7i
                        have hz := canon_sat_zero c6
                        rw [← hse] at hz
                        clear c7 hle2 hlen hn2
                        have hn1 : ¬ (canonB od = false ∨ dval od % 2 = 0 ∨ canonB ex = false ∨ (false = true ∧ ex = [48])) := by
                          rintro (h | h | h | h)
                          · rw [c1] at h
                            cases h
                          · exact c2 h
                          · rw [c6] at h
                            cases h
                          · exact absurd h.1 (by decide)
                        rw [if_neg hn1] at hF
                        clear hn1 hz
                        by_cases c9 : 9007199254740992 ≤ sm
                        · rw [if_pos (.inl (by omega))] at hF
                          have HF := Lib.hid hF
                          have c9i : (9007199254740992 : Int) ≤ ((sm : Nat) : Int) := by omega
                          clear hF hF3 hexp hso hsle hsm c1 c2 hxc hEX hxsz hexl hn hpp hso2 hsle2 hse he2 hE2 c6 c9
                          go_wp2_with (first | (go_at_call 66; first | (with_reducible (refine (kr _).mono ?_); rintro _ _ ⟨rfl, hb⟩; replace hG := Lib.hid (grow_trans hG.out hb); clear hb) | (with_reducible (refine (kr2 _).mono ?_); rintro _ _ ⟨rfl, hb⟩; replace hG := Lib.hid (grow_trans hG.out hb); clear hb)))
                          go_ret2
                          exact ⟨by rw [HF.out]; rfl, hG.out⟩
                        have hdm : dval od = sm := by omega
                        have c9i : decide ((9007199254740992 : Int) ≤ ((sm : Nat) : Int)) = false := decide_eq_false (by omega)
                        by_cases c10 : 4000 < se
                        · rw [if_pos (.inr (by omega))] at hF
                          have HF := Lib.hid hF
                          have c10i : (4000 : Int) < ((se : Nat) : Int) := by omega
                          clear hF hF3 hexp hso hsle hsm c1 c2 hxc hEX hxsz hexl hn hpp hso2 hsle2 hse he2 hE2 c6 c9 c10 hdm
                          go_wp2_with (first | (go_at_call 66; first | (with_reducible (refine (kr _).mono ?_); rintro _ _ ⟨rfl, hb⟩; replace hG := Lib.hid (grow_trans hG.out hb); clear hb) | (with_reducible (refine (kr2 _).mono ?_); rintro _ _ ⟨rfl, hb⟩; replace hG := Lib.hid (grow_trans hG.out hb); clear hb)))
                          go_ret2
                          exact ⟨by rw [HF.out]; rfl, hG.out⟩
                        have hde : dval ex = se := by omega
                        have c10i : ¬ (4000 : Int) < ((se : Nat) : Int) := by omega
                        rw [if_neg (by rintro (h | h) <;> omega)] at hF
                        rw [hde] at hexp
                        rw [hdm] at hF c2
                        have hw64 : IntKind.i64.wrap ((se : Nat) : Int) = ((se : Nat) : Int) := by
                          rw [IntKind.wrap_i64]
                          omega
                        rw [if_neg (by decide)] at hexp
                        have c11 : ¬ ((se : Nat) : Int) < -1074 := by omega
                        rw [hexp] at hF
                        have hnl := nearest_le sm ((se : Nat) : Int)
                        obtain ⟨wf1, wf2, wf3⟩ := word_facts true hnl
                        have hsm0 : sm ≠ 0 := by omega
                        have kro := fun w => rounded_any true false (w := sm) (e := ((se : Nat) : Int)) (by omega) (by omega) (by omega) w
                        rw [rnd_nearest true ((se : Nat) : Int) hsm0 (by omega)] at kro
                        have hwn : D.word true (D.nearest false sm ((se : Nat) : Int)) = D.nearest true sm ((se : Nat) : Int) := by
                          obtain ⟨r, h1, h2⟩ := nearest_rung false sm ((se : Nat) : Int)
                          rw [h2 false, h2 true, word_f]
                        rw [← hwn] at kro
                        have hwv : wv sm = .agg #[.int .u64 0, .int .u64 ((sm : Nat) : Int)] := by
                          unfold wv
                          rw [Nat.div_eq_of_lt (by omega), Nat.mod_eq_of_lt (by omega)]
                          rfl
                        rw [hwv] at kro
                        have hwlt : D.word true (D.nearest false sm ((se : Nat) : Int)) < 18446744073709551616 := by
                          have := word_sgn true (D.nearest false sm ((se : Nat) : Int))
                          have h2 : sgn true ≤ 9223372036854775808 := by decide
                          have h3 : infB = 9218868437227405312 := rfl
                          omega
                        have fA := andNot_sign (D.word true (D.nearest false sm ((se : Nat) : Int))) hwlt
                        have wf4 : D.word true (D.nearest false sm ((se : Nat) : Int)) % 9223372036854775808 = D.nearest false sm ((se : Nat) : Int) := wf3
                        rw [wf4] at fA
                        obtain ⟨r, hr⟩ : ∃ x, x = D.nearest false sm ((se : Nat) : Int) := ⟨_, rfl⟩
                        rw [← hr] at hF kro fA
                        obtain ⟨wd, hwd⟩ : ∃ x, x = D.word true r := ⟨_, rfl⟩
                        rw [← hwd] at hF kro fA
                        rw [show ((sgn true : Nat) : Int) = 9223372036854775808 from rfl] at kro
                        clear wf1 wf2 wf3 wf4 hnl hwn hwv hwlt hr hwd
                        by_cases c12 : r = infB
                        · rw [if_pos (.inr c12)] at hF
                          rw [c12, show ((infB : Nat) : Int) = 9218868437227405312 from rfl] at fA
                          have HF := Lib.hid hF
                          clear hF hF3 hexp hso hsle hsm c1 c2 hxc hEX hxsz hexl hn hpp hso2 hsle2 hse he2 hE2 c6 c9 c10 hdm hde c12 hsm0
                          go_wp2_with (first | (go_at_call 66; first | (with_reducible (refine (kr _).mono ?_); rintro _ _ ⟨rfl, hb⟩; replace hG := Lib.hid (grow_trans hG.out hb); clear hb) | (with_reducible (refine (kr2 _).mono ?_); rintro _ _ ⟨rfl, hb⟩; replace hG := Lib.hid (grow_trans hG.out hb); clear hb)) | (go_at_call 44; with_reducible (refine (kro _).mono ?_); rintro _ _ ⟨rfl, hb⟩; replace hG := Lib.hid (grow_trans hG.out hb); clear hb))
                          go_ret2
                          exact ⟨by rw [HF.out]; rfl, hG.out⟩
                        · rw [if_neg (by rintro (h | h); exact c11 h; exact c12 h)] at hF
                          have h3 : infB = 9218868437227405312 := rfl
                          have hri : (((r : Nat) : Int) == 9218868437227405312) = false := beq_eq_false_iff_ne.2 fun h => c12 (by omega)
                          clear h3
                          have HF := Lib.hid hF
                          clear hF hF3 hexp hso hsle hsm c1 c2 hxc hEX hxsz hexl hn hpp hso2 hsle2 hse he2 hE2 c6 c9 c10 hdm hde c12 hsm0
                          go_wp2_with (first | (go_at_call 66; first | (with_reducible (refine (kr _).mono ?_); rintro _ _ ⟨rfl, hb⟩; replace hG := Lib.hid (grow_trans hG.out hb); clear hb) | (with_reducible (refine (kr2 _).mono ?_); rintro _ _ ⟨rfl, hb⟩; replace hG := Lib.hid (grow_trans hG.out hb); clear hb)) | (go_at_call 44; with_reducible (refine (kro _).mono ?_); rintro _ _ ⟨rfl, hb⟩; replace hG := Lib.hid (grow_trans hG.out hb); clear hb))
                          go_ret2
                          exact ⟨by rw [HF.out]; rfl, hG.out⟩
              · rw [tail_bad (.inr (.inr fun _ => c4))] at hF
                have HF := Lib.hid hF
                have kr2 := kr
                have hp1 : ((((t[lead t]'c3).toNat : Nat) : Int) != 112) = true := bne_iff_ne.2 fun h => c4 (UInt8.toNat_inj.1 (by show (t[lead t]'c3).toNat = 112; omega))
                obtain ⟨pi, hpi⟩ : ∃ z : Int, z = (((t[lead t]'c3).toNat : Nat) : Int) := ⟨_, rfl⟩
                rw [← hpi] at hixp hp1
                clear hF c1 c2 c4 hTS hpi
                go_wp2_with (first | (go_at_call 66; first | (with_reducible (refine (kr _).mono ?_); rintro _ _ ⟨rfl, hb⟩; replace hG := Lib.hid (grow_trans hG.out hb); clear hb) | (with_reducible (refine (kr2 _).mono ?_); rintro _ _ ⟨rfl, hb⟩; replace hG := Lib.hid (grow_trans hG.out hb); clear hb)))
                go_ret2
                exact ⟨by rw [HF.out]; rfl, hG.out⟩
            · rw [tail_bad (.inr (.inr fun k => absurd k c3))] at hF
              have HF := Lib.hid hF
              have kr2 := kr
              have hnl : lead t = t.length := by omega
              rw [hnl] at kr2 hixn hwm
              clear hF c1 c2 hTS hnl kr
              have kr := kr2
              go_wp2_with (first | (go_at_call 66; first | (with_reducible (refine (kr _).mono ?_); rintro _ _ ⟨rfl, hb⟩; replace hG := Lib.hid (grow_trans hG.out hb); clear hb) | (with_reducible (refine (kr2 _).mono ?_); rintro _ _ ⟨rfl, hb⟩; replace hG := Lib.hid (grow_trans hG.out hb); clear hb)))
              go_ret2
              exact ⟨by rw [HF.out]; rfl, hG.out⟩
        · have hF : V = tailV false l := by
            have h1 := strip_other (l := r) c5
            rw [hFT, hlc, h1.1, h1.2]
          have htl := hs
          have hc5 : (((c0.toNat : Nat) : Int) == 45) = false := beq_eq_false_iff_ne.2 fun h => c5 (UInt8.toNat_inj.1 (by show c0.toNat = 45; omega))
          obtain ⟨ca, hca⟩ : ∃ z : Int, z = ((c0.toNat : Nat) : Int) := ⟨_, rfl⟩
          rw [← hca] at hc5 hixa
          obtain ⟨TT, hTS⟩ : ∃ x, x = S := ⟨_, rfl⟩
          rw [← hTS] at hixa hxp hS hsz ⊢
          clear hFT hgx hlc hca HS hs hTS hsz
          have hTS := hS
          clear hS
          obtain ⟨t, rfl⟩ : ∃ t, t = l := ⟨_, rfl⟩
          have kr := fun w => run_any htl w
          have hTsz : TT.size = t.length := by rw [hTS, ba_size]
          rw [← hTS] at kr
          have hlt := lead_le t
          cases c1 : canonB (t.take (lead t)) with
          | false =>
            rw [c1] at kr
            rw [tail_bad (.inl c1)] at hF
            have HF := Lib.hid hF
            have kr2 := kr
            clear hF c1 hTS
            go_wp2_with (first | (go_at_call 66; first | (with_reducible (refine (kr _).mono ?_); rintro _ _ ⟨rfl, hb⟩; replace hG := Lib.hid (grow_trans hG.out hb); clear hb) | (with_reducible (refine (kr2 _).mono ?_); rintro _ _ ⟨rfl, hb⟩; replace hG := Lib.hid (grow_trans hG.out hb); clear hb)))
            go_ret2
            exact ⟨by rw [HF.out]; rfl, hG.out⟩
          | true =>
            have hll := lead_last c1
            rw [c1] at kr
            obtain ⟨k0, hk, q1, q2, q3⟩ := hll
            have hixn := fun w => str_index hk w
            rw [← hTS, show (((lead t - 1 : Nat)) : Int) = ((lead t : Nat) : Int) - 1 by omega] at hixn
            have hwm : IntKind.i64.wrap (((lead t : Nat) : Int) - 1) = ((lead t : Nat) : Int) - 1 := by
              rw [IntKind.wrap_i64]
              omega
            obtain ⟨cn, hcn⟩ : ∃ z : Nat, z = (t[lead t - 1]'hk).toNat := ⟨_, rfl⟩
            rw [← hcn] at hixn q1 q2 q3
            clear hcn
            have hw8 : IntKind.u8.wrap (((cn : Nat) : Int) - 48) = ((cn : Nat) : Int) - 48 := by
              rw [IntKind.wrap_u8]
              omega
            by_cases c2 : dval (t.take (lead t)) % 2 = 0
            · rw [tail_bad (.inr (.inl c2))] at hF
              have HF := Lib.hid hF
              have kr2 := kr
              have e1 : (((cn : Nat) : Int) - 48) % 2 = 0 := by omega
              have e2 : Int.tmod (((cn : Nat) : Int) - 48) 2 = 0 := by
                rw [Int.tmod_eq_emod_of_nonneg (by omega)]
                exact e1
              clear hF c1 c2 hTS q1 q2 q3
              go_wp2_with (first | (go_at_call 66; first | (with_reducible (refine (kr _).mono ?_); rintro _ _ ⟨rfl, hb⟩; replace hG := Lib.hid (grow_trans hG.out hb); clear hb) | (with_reducible (refine (kr2 _).mono ?_); rintro _ _ ⟨rfl, hb⟩; replace hG := Lib.hid (grow_trans hG.out hb); clear hb)))
              go_ret2
              exact ⟨by rw [HF.out]; rfl, hG.out⟩
            have e1 : (((cn : Nat) : Int) - 48) % 2 = 1 := by omega
            have e2 : Int.tmod (((cn : Nat) : Int) - 48) 2 = 1 := by
              rw [Int.tmod_eq_emod_of_nonneg (by omega)]
              exact e1
            clear q1 q2 q3
            by_cases c3 : lead t < t.length
            · have hixp := fun w => str_index c3 w
              rw [← hTS] at hixp
              have ct1 : (((lead t : Nat) : Int) == ((TT.size : Nat) : Int)) = false := beq_eq_false_iff_ne.2 (by omega)
              have ct2 : ((lead t : Nat) : Int) < ((TT.size : Nat) : Int) := by omega
              by_cases c4 : t[lead t]'c3 = 112
              · rw [c4, show (((112 : UInt8).toNat : Nat) : Int) = 112 from rfl] at hixp
                have hF2 := tail_good (sg := false) c3 c4
                rw [hF2] at hF
                have hsl2 := fun w => str_slice (l := t) (i := lead t + 1) (by omega) w
                rw [← hTS, show (((lead t + 1 : Nat)) : Int) = ((lead t : Nat) : Int) + 1 by omega] at hsl2
                have hwn : IntKind.i64.wrap (((lead t : Nat) : Int) + 1) = ((lead t : Nat) : Int) + 1 := by
                  rw [IntKind.wrap_i64]
                  omega
                have hexl : (t.drop (lead t + 1)).length < 1073741824 := by
                  rw [List.length_drop]
                  omega
                have hso := sat_or (t.take (lead t))
                have hsle := sat_le (t.take (lead t))
                obtain ⟨ex, hex⟩ : ∃ x, x = t.drop (lead t + 1) := ⟨_, rfl⟩
                obtain ⟨od, hod⟩ : ∃ x, x = t.take (lead t) := ⟨_, rfl⟩
                obtain ⟨n, hn⟩ : ∃ x, x = lead t := ⟨_, rfl⟩
                rw [← hex] at hF hsl2 hexl
                rw [← hod] at hF hso hsle kr c1 c2
                rw [← hn] at hsl2 hwn kr ct2 hixn hixp ct1 hwm
                clear hF2 hex hod hTS
                obtain ⟨EX, hEX⟩ : ∃ x, x = strOf ex := ⟨_, rfl⟩
                rw [← hEX] at hsl2
                obtain ⟨sm, hsm⟩ : ∃ x, x = sat od := ⟨_, rfl⟩
                rw [← hsm] at hso hsle kr
                have hxsz : EX.size = ex.length := by rw [hEX, ba_size]
                cases hxc : ex with
                | nil =>
                  have EEX : EX = strOf [] := by rw [hEX, hxc]
                  have kr2 : ∀ w, Calls Tryz.prog 66 #[.string EX] w fun e w' => e = .returned (.tuple #[.int .i64 0, .int .u64 0, .bool false]) ∧ Below w.heap.size w w' := fun w => by
                    rw [EEX]
                    exact run_any (l := []) (by decide) w
                  have hx0 : EX.size = 0 := by rw [hxsz, hxc]; rfl
                  have hbad : fparse.fparse2 false od ex = (0, 10) := by
                    unfold fparse.fparse2
                    rw [hxc]
                    exact if_pos (.inr (.inr (.inl rfl)))
                  rw [hbad] at hF
                  have HF := Lib.hid hF
                  clear hF hbad hso hsle hsm c1 c2 hxc hEX EEX hxsz hexl hn
                  go_wp2_with (first | (go_at_call 66; first | (with_reducible (refine (kr _).mono ?_); rintro _ _ ⟨rfl, hb⟩; replace hG := Lib.hid (grow_trans hG.out hb); clear hb) | (with_reducible (refine (kr2 _).mono ?_); rintro _ _ ⟨rfl, hb⟩; replace hG := Lib.hid (grow_trans hG.out hb); clear hb)))
                  go_ret2
                  exact ⟨by rw [HF.out]; rfl, hG.out⟩
                | cons c0 r =>
                  have hx0 : 0 < ex.length := by rw [hxc]; exact Nat.succ_pos _
                  have hix0 := fun w => str_index hx0 w
                  have hgx : ex[0]'hx0 = c0 := by simp [hxc]
                  rw [hgx, ← hEX, show ((0 : Nat) : Int) = 0 from rfl] at hix0
                  have hxp : (0 : Int) < ((EX.size : Nat) : Int) := by omega
                  by_cases c5 : c0 = 45
                  · have hsl3 := fun w => str_slice (l := ex) (i := 1) (by omega) w
                    have hxs1 : (1 : Int) ≤ ((EX.size : Nat) : Int) := by omega
                    rw [hxc, List.drop_succ_cons, List.drop_zero, ← hxc, ← hEX, show ((1 : Nat) : Int) = 1 from rfl] at hsl3
                    rw [c5, show (((45 : UInt8).toNat : Nat) : Int) = 45 from rfl] at hix0
                    have hst := strip_minus r
                    have hpp : Lib.hasPrefix ex [45] = true ∧ Lib.trimPrefix ex [45] = r := by
                      rw [hxc, c5]
                      exact hst
                    have hrl : r.length < 1073741824 := by
                      rw [hxc, List.length_cons] at hexl
                      omega
                    clear hst
                    have hF3 : fparse.fparse2 false od ex = if canonB od = false ∨ dval od % 2 = 0 ∨ canonB (Lib.trimPrefix ex [45]) = false ∨ (Lib.hasPrefix ex [45] = true ∧ Lib.trimPrefix ex [45] = [48]) then (0, 10) else if 9007199254740992 ≤ dval od ∨ 4000 < dval (Lib.trimPrefix ex [45]) then (0, 11) else if expOf ex < -1074 ∨ D.nearest false (dval od) (expOf ex) = infB then (0, 11) else (D.word false (D.nearest false (dval od) (expOf ex)), 0) := rfl
                    have hexp : expOf ex = if Lib.hasPrefix ex [45] = true then -((dval (Lib.trimPrefix ex [45]) : Nat) : Int) else ((dval (Lib.trimPrefix ex [45]) : Nat) : Int) := rfl
                    rw [hpp.1, hpp.2] at hF3 hexp
                    rw [hF3] at hF
                    have kr2 := fun w => run_any hrl w
                    have hso2 := sat_or (r.take (lead r))
                    have hsle2 := sat_le (r.take (lead r))
                    obtain ⟨E2, hE2⟩ : ∃ x, x = strOf r := ⟨_, rfl⟩
                    have he2 : E2.size = r.length := by rw [hE2, ba_size]
                    rw [← hE2] at kr2 hsl3
                    obtain ⟨se, hse⟩ : ∃ x, x = sat (r.take (lead r)) := ⟨_, rfl⟩
                    rw [← hse] at kr2 hso2 hsle2
                    
                    cases c6 : canonB (r.take (lead r)) with
                    | false =>
                      rw [c6] at kr2
                      rw [if_pos (.inr (.inr (.inl (canon_lead_no (.inl c6)))))] at hF
                      have HF := Lib.hid hF
                      clear hF hF3 hexp hso hsle hsm c1 c2 hxc hEX hxsz hexl hn hpp hso2 hsle2 hse he2 hE2 c6
                      go_wp2_with (first | (go_at_call 66; first | (with_reducible (refine (kr _).mono ?_); rintro _ _ ⟨rfl, hb⟩; replace hG := Lib.hid (grow_trans hG.out hb); clear hb) | (with_reducible (refine (kr2 _).mono ?_); rintro _ _ ⟨rfl, hb⟩; replace hG := Lib.hid (grow_trans hG.out hb); clear hb)))
                      go_ret2
                      exact ⟨by rw [HF.out]; rfl, hG.out⟩
                    | true =>
                      rw [c6] at kr2
                      by_cases c7 : lead r < r.length
                      · rw [if_pos (.inr (.inr (.inl (canon_lead_no (.inr c7)))))] at hF
                        have HF := Lib.hid hF
                        have c7i : ((lead r : Nat) : Int) < ((E2.size : Nat) : Int) := by omega
                        obtain ⟨n2, hn2⟩ : ∃ x, x = lead r := ⟨_, rfl⟩
                        rw [← hn2] at kr2 c7i
                        clear hF hF3 hexp hso hsle hsm c1 c2 hxc hEX hxsz hexl hn hpp hso2 hsle2 hse he2 hE2 c6 c7 hn2
                        go_wp2_with (first | (go_at_call 66; first | (with_reducible (refine (kr _).mono ?_); rintro _ _ ⟨rfl, hb⟩; replace hG := Lib.hid (grow_trans hG.out hb); clear hb) | (with_reducible (refine (kr2 _).mono ?_); rintro _ _ ⟨rfl, hb⟩; replace hG := Lib.hid (grow_trans hG.out hb); clear hb)))
                        go_ret2
                        exact ⟨by rw [HF.out]; rfl, hG.out⟩
                      · have hle2 := lead_le r
                        have hlen : lead r = r.length := by omega
                        rw [hlen, List.take_length] at c6 hso2 hse
                        have c7i : ¬ ((lead r : Nat) : Int) < ((E2.size : Nat) : Int) := by omega
                        obtain ⟨n2, hn2⟩ : ∃ x, x = lead r := ⟨_, rfl⟩
                        rw [← hn2] at kr2 c7i
                        have hz := canon_sat_zero c6
                        rw [← hse] at hz
                        clear c7 hle2 hlen hn2
                        by_cases c8 : se = 0
                        · rw [if_pos (.inr (.inr (.inr ⟨rfl, hz.1 c8⟩)))] at hF
                          have HF := Lib.hid hF
                          rw [c8, show ((0 : Nat) : Int) = 0 from rfl] at kr2
                          clear hF hF3 hexp hso hsle hsm c1 c2 hxc hEX hxsz hexl hn hpp hso2 hsle2 hse he2 hE2 c6 c8 hz
                          go_wp2_with (first | (go_at_call 66; first | (with_reducible (refine (kr _).mono ?_); rintro _ _ ⟨rfl, hb⟩; replace hG := Lib.hid (grow_trans hG.out hb); clear hb) | (with_reducible (refine (kr2 _).mono ?_); rintro _ _ ⟨rfl, hb⟩; replace hG := Lib.hid (grow_trans hG.out hb); clear hb)))
                          go_ret2
                          exact ⟨by rw [HF.out]; rfl, hG.out⟩
                        have c8i : (((se : Nat) : Int) == 0) = false := beq_eq_false_iff_ne.2 (by omega)
                        have hn1 : ¬ (canonB od = false ∨ dval od % 2 = 0 ∨ canonB r = false ∨ (true = true ∧ r = [48])) := by
                          rintro (h | h | h | h)
                          · rw [c1] at h
                            cases h
                          · exact c2 h
                          · rw [c6] at h
                            cases h
                          · exact c8 (hz.2 h.2)
                        rw [if_neg hn1] at hF
                        clear hn1 hz
                        by_cases c9 : 9007199254740992 ≤ sm
                        · rw [if_pos (.inl (by omega))] at hF
                          have HF := Lib.hid hF
                          have c9i : (9007199254740992 : Int) ≤ ((sm : Nat) : Int) := by omega
                          clear hF hF3 hexp hso hsle hsm c1 c2 hxc hEX hxsz hexl hn hpp hso2 hsle2 hse he2 hE2 c6 c9
                          go_wp2_with (first | (go_at_call 66; first | (with_reducible (refine (kr _).mono ?_); rintro _ _ ⟨rfl, hb⟩; replace hG := Lib.hid (grow_trans hG.out hb); clear hb) | (with_reducible (refine (kr2 _).mono ?_); rintro _ _ ⟨rfl, hb⟩; replace hG := Lib.hid (grow_trans hG.out hb); clear hb)))
                          go_ret2
                          exact ⟨by rw [HF.out]; rfl, hG.out⟩
                        have hdm : dval od = sm := by omega
                        have c9i : decide ((9007199254740992 : Int) ≤ ((sm : Nat) : Int)) = false := decide_eq_false (by omega)
                        by_cases c10 : 4000 < se
                        · rw [if_pos (.inr (by omega))] at hF
                          have HF := Lib.hid hF
                          have c10i : (4000 : Int) < ((se : Nat) : Int) := by omega
                          clear hF hF3 hexp hso hsle hsm c1 c2 hxc hEX hxsz hexl hn hpp hso2 hsle2 hse he2 hE2 c6 c9 c10 hdm
                          go_wp2_with (first | (go_at_call 66; first | (with_reducible (refine (kr _).mono ?_); rintro _ _ ⟨rfl, hb⟩; replace hG := Lib.hid (grow_trans hG.out hb); clear hb) | (with_reducible (refine (kr2 _).mono ?_); rintro _ _ ⟨rfl, hb⟩; replace hG := Lib.hid (grow_trans hG.out hb); clear hb)))
                          go_ret2
                          exact ⟨by rw [HF.out]; rfl, hG.out⟩
                        have hde : dval r = se := by omega
                        have c10i : ¬ (4000 : Int) < ((se : Nat) : Int) := by omega
                        rw [if_neg (by rintro (h | h) <;> omega)] at hF
                        rw [hde] at hexp
                        rw [hdm] at hF c2
                        have hw64 : IntKind.i64.wrap ((se : Nat) : Int) = ((se : Nat) : Int) := by
                          rw [IntKind.wrap_i64]
                          omega
                        rw [if_pos rfl] at hexp
                        have hwn2 : IntKind.i64.wrap (-((se : Nat) : Int)) = -((se : Nat) : Int) := by
                          rw [IntKind.wrap_i64]
                          omega
                        by_cases c11 : -((se : Nat) : Int) < -1074
                        · rw [hexp, if_pos (.inl c11)] at hF
                          have HF := Lib.hid hF
                          clear hF hF3 hexp hso hsle hsm c1 c2 hxc hEX hxsz hexl hn hpp hso2 hsle2 hse he2 hE2 c6 c9 c10 hdm hde
                          go_wp2_with (first | (go_at_call 66; first | (with_reducible (refine (kr _).mono ?_); rintro _ _ ⟨rfl, hb⟩; replace hG := Lib.hid (grow_trans hG.out hb); clear hb) | (with_reducible (refine (kr2 _).mono ?_); rintro _ _ ⟨rfl, hb⟩; replace hG := Lib.hid (grow_trans hG.out hb); clear hb)))
                          go_ret2
                          exact ⟨by rw [HF.out]; rfl, hG.out⟩
                        rw [hexp] at hF
                        have hnl := nearest_le sm (-((se : Nat) : Int))
                        obtain ⟨wf1, wf2, wf3⟩ := word_facts false hnl
                        have hsm0 : sm ≠ 0 := by omega
                        have kro := fun w => rounded_any false false (w := sm) (e := (-((se : Nat) : Int))) (by omega) (by omega) (by omega) w
                        rw [rnd_nearest false (-((se : Nat) : Int)) hsm0 (by omega)] at kro
                        have hwn : D.word false (D.nearest false sm (-((se : Nat) : Int))) = D.nearest false sm (-((se : Nat) : Int)) := by
                          obtain ⟨r, h1, h2⟩ := nearest_rung false sm (-((se : Nat) : Int))
                          rw [h2 false, word_f, word_f]
                        rw [← hwn] at kro
                        have hwv : wv sm = .agg #[.int .u64 0, .int .u64 ((sm : Nat) : Int)] := by
                          unfold wv
                          rw [Nat.div_eq_of_lt (by omega), Nat.mod_eq_of_lt (by omega)]
                          rfl
                        rw [hwv] at kro
                        have hwlt : D.word false (D.nearest false sm (-((se : Nat) : Int))) < 18446744073709551616 := by
                          have := word_sgn false (D.nearest false sm (-((se : Nat) : Int)))
                          have h2 : sgn false ≤ 9223372036854775808 := by decide
                          have h3 : infB = 9218868437227405312 := rfl
                          omega
                        have fA := andNot_sign (D.word false (D.nearest false sm (-((se : Nat) : Int)))) hwlt
                        have wf4 : D.word false (D.nearest false sm (-((se : Nat) : Int))) % 9223372036854775808 = D.nearest false sm (-((se : Nat) : Int)) := wf3
                        rw [wf4] at fA
                        obtain ⟨r, hr⟩ : ∃ x, x = D.nearest false sm (-((se : Nat) : Int)) := ⟨_, rfl⟩
                        rw [← hr] at hF kro fA
                        obtain ⟨wd, hwd⟩ : ∃ x, x = D.word false r := ⟨_, rfl⟩
                        rw [← hwd] at hF kro fA
                        rw [show ((sgn false : Nat) : Int) = 0 from rfl] at kro
                        clear wf1 wf2 wf3 wf4 hnl hwn hwv hwlt hr hwd
                        by_cases c12 : r = infB
                        · rw [if_pos (.inr c12)] at hF
                          rw [c12, show ((infB : Nat) : Int) = 9218868437227405312 from rfl] at fA
                          have HF := Lib.hid hF
                          clear hF hF3 hexp hso hsle hsm c1 c2 hxc hEX hxsz hexl hn hpp hso2 hsle2 hse he2 hE2 c6 c9 c10 hdm hde c12 hsm0
                          go_wp2_with (first | (go_at_call 66; first | (with_reducible (refine (kr _).mono ?_); rintro _ _ ⟨rfl, hb⟩; replace hG := Lib.hid (grow_trans hG.out hb); clear hb) | (with_reducible (refine (kr2 _).mono ?_); rintro _ _ ⟨rfl, hb⟩; replace hG := Lib.hid (grow_trans hG.out hb); clear hb)) | (go_at_call 44; with_reducible (refine (kro _).mono ?_); rintro _ _ ⟨rfl, hb⟩; replace hG := Lib.hid (grow_trans hG.out hb); clear hb))
                          go_ret2
                          exact ⟨by rw [HF.out]; rfl, hG.out⟩
                        · rw [if_neg (by rintro (h | h); exact c11 h; exact c12 h)] at hF
                          have h3 : infB = 9218868437227405312 := rfl
                          have hri : (((r : Nat) : Int) == 9218868437227405312) = false := beq_eq_false_iff_ne.2 fun h => c12 (by omega)
                          clear h3
                          have HF := Lib.hid hF
                          clear hF hF3 hexp hso hsle hsm c1 c2 hxc hEX hxsz hexl hn hpp hso2 hsle2 hse he2 hE2 c6 c9 c10 hdm hde c12 hsm0
                          go_wp2_with (first | (go_at_call 66; first | (with_reducible (refine (kr _).mono ?_); rintro _ _ ⟨rfl, hb⟩; replace hG := Lib.hid (grow_trans hG.out hb); clear hb) | (with_reducible (refine (kr2 _).mono ?_); rintro _ _ ⟨rfl, hb⟩; replace hG := Lib.hid (grow_trans hG.out hb); clear hb)) | (go_at_call 44; with_reducible (refine (kro _).mono ?_); rintro _ _ ⟨rfl, hb⟩; replace hG := Lib.hid (grow_trans hG.out hb); clear hb))
                          go_ret2
                          exact ⟨by rw [HF.out]; rfl, hG.out⟩
                  · have hpp : Lib.hasPrefix ex [45] = false ∧ Lib.trimPrefix ex [45] = ex := by
                      rw [hxc]
                      exact strip_other c5
                    have hc5 : (((c0.toNat : Nat) : Int) == 45) = false := beq_eq_false_iff_ne.2 fun h => c5 (UInt8.toNat_inj.1 (by show c0.toNat = 45; omega))
                    obtain ⟨ci, hci⟩ : ∃ z : Int, z = ((c0.toNat : Nat) : Int) := ⟨_, rfl⟩
                    rw [← hci] at hc5 hix0
                    have hrl : ex.length < 1073741824 := hexl
                    clear hci
                    have hF3 : fparse.fparse2 false od ex = if canonB od = false ∨ dval od % 2 = 0 ∨ canonB (Lib.trimPrefix ex [45]) = false ∨ (Lib.hasPrefix ex [45] = true ∧ Lib.trimPrefix ex [45] = [48]) then (0, 10) else if 9007199254740992 ≤ dval od ∨ 4000 < dval (Lib.trimPrefix ex [45]) then (0, 11) else if expOf ex < -1074 ∨ D.nearest false (dval od) (expOf ex) = infB then (0, 11) else (D.word false (D.nearest false (dval od) (expOf ex)), 0) := rfl
                    have hexp : expOf ex = if Lib.hasPrefix ex [45] = true then -((dval (Lib.trimPrefix ex [45]) : Nat) : Int) else ((dval (Lib.trimPrefix ex [45]) : Nat) : Int) := rfl
                    rw [hpp.1, hpp.2] at hF3 hexp
                    rw [hF3] at hF
                    have kr2 := fun w => run_any hrl w
                    have hso2 := sat_or (ex.take (lead ex))
                    have hsle2 := sat_le (ex.take (lead ex))
                    obtain ⟨E2, hE2⟩ : ∃ x, x = strOf ex := ⟨_, rfl⟩
                    have he2 : E2.size = ex.length := by rw [hE2, ba_size]
                    rw [← hE2] at kr2
                    obtain ⟨se, hse⟩ : ∃ x, x = sat (ex.take (lead ex)) := ⟨_, rfl⟩
                    rw [← hse] at kr2 hso2 hsle2
                    have hEE : EX = E2 := by rw [hEX, hE2]
                    rw [hEE] at hsl2 hix0 hxp
                    cases c6 : canonB (ex.take (lead ex)) with
                    | false =>
                      rw [c6] at kr2
                      rw [if_pos (.inr (.inr (.inl (canon_lead_no (.inl c6)))))] at hF
                      have HF := Lib.hid hF
                      clear hF hF3 hexp hso hsle hsm c1 c2 hxc hEX hxsz hexl hn hpp hso2 hsle2 hse he2 hE2 c6
                      go_wp2_with (first | (go_at_call 66; first | (with_reducible (refine (kr _).mono ?_); rintro _ _ ⟨rfl, hb⟩; replace hG := Lib.hid (grow_trans hG.out hb); clear hb) | (with_reducible (refine (kr2 _).mono ?_); rintro _ _ ⟨rfl, hb⟩; replace hG := Lib.hid (grow_trans hG.out hb); clear hb)))
                      go_ret2
                      exact ⟨by rw [HF.out]; rfl, hG.out⟩
                    | true =>
                      rw [c6] at kr2
                      by_cases c7 : lead ex < ex.length
                      · rw [if_pos (.inr (.inr (.inl (canon_lead_no (.inr c7)))))] at hF
                        have HF := Lib.hid hF
                        have c7i : ((lead ex : Nat) : Int) < ((E2.size : Nat) : Int) := by omega
                        obtain ⟨n2, hn2⟩ : ∃ x, x = lead ex := ⟨_, rfl⟩
                        rw [← hn2] at kr2 c7i
                        clear hF hF3 hexp hso hsle hsm c1 c2 hxc hEX hxsz hexl hn hpp hso2 hsle2 hse he2 hE2 c6 c7 hn2
                        go_wp2_with (first | (go_at_call 66; first | (with_reducible (refine (kr _).mono ?_); rintro _ _ ⟨rfl, hb⟩; replace hG := Lib.hid (grow_trans hG.out hb); clear hb) | (with_reducible (refine (kr2 _).mono ?_); rintro _ _ ⟨rfl, hb⟩; replace hG := Lib.hid (grow_trans hG.out hb); clear hb)))
                        go_ret2
                        exact ⟨by rw [HF.out]; rfl, hG.out⟩
                      · have hle2 := lead_le ex
                        have hlen : lead ex = ex.length := by omega
                        rw [hlen, List.take_length] at c6 hso2 hse
                        have c7i : ¬ ((lead ex : Nat) : Int) < ((E2.size : Nat) : Int) := by omega
                        obtain ⟨n2, hn2⟩ : ∃ x, x = lead ex := ⟨_, rfl⟩
                        rw [← hn2] at kr2 c7i
                        have hz := canon_sat_zero c6
                        rw [← hse] at hz
                        clear c7 hle2 hlen hn2
                        have hn1 : ¬ (canonB od = false ∨ dval od % 2 = 0 ∨ canonB ex = false ∨ (false = true ∧ ex = [48])) := by
                          rintro (h | h | h | h)
                          · rw [c1] at h
                            cases h
                          · exact c2 h
                          · rw [c6] at h
                            cases h
                          · exact absurd h.1 (by decide)
                        rw [if_neg hn1] at hF
                        clear hn1 hz
                        by_cases c9 : 9007199254740992 ≤ sm
                        · rw [if_pos (.inl (by omega))] at hF
                          have HF := Lib.hid hF
                          have c9i : (9007199254740992 : Int) ≤ ((sm : Nat) : Int) := by omega
                          clear hF hF3 hexp hso hsle hsm c1 c2 hxc hEX hxsz hexl hn hpp hso2 hsle2 hse he2 hE2 c6 c9
                          go_wp2_with (first | (go_at_call 66; first | (with_reducible (refine (kr _).mono ?_); rintro _ _ ⟨rfl, hb⟩; replace hG := Lib.hid (grow_trans hG.out hb); clear hb) | (with_reducible (refine (kr2 _).mono ?_); rintro _ _ ⟨rfl, hb⟩; replace hG := Lib.hid (grow_trans hG.out hb); clear hb)))
                          go_ret2
                          exact ⟨by rw [HF.out]; rfl, hG.out⟩
                        have hdm : dval od = sm := by omega
                        have c9i : decide ((9007199254740992 : Int) ≤ ((sm : Nat) : Int)) = false := decide_eq_false (by omega)
                        by_cases c10 : 4000 < se
                        · rw [if_pos (.inr (by omega))] at hF
                          have HF := Lib.hid hF
                          have c10i : (4000 : Int) < ((se : Nat) : Int) := by omega
                          clear hF hF3 hexp hso hsle hsm c1 c2 hxc hEX hxsz hexl hn hpp hso2 hsle2 hse he2 hE2 c6 c9 c10 hdm
                          go_wp2_with (first | (go_at_call 66; first | (with_reducible (refine (kr _).mono ?_); rintro _ _ ⟨rfl, hb⟩; replace hG := Lib.hid (grow_trans hG.out hb); clear hb) | (with_reducible (refine (kr2 _).mono ?_); rintro _ _ ⟨rfl, hb⟩; replace hG := Lib.hid (grow_trans hG.out hb); clear hb)))
                          go_ret2
                          exact ⟨by rw [HF.out]; rfl, hG.out⟩
                        have hde : dval ex = se := by omega
                        have c10i : ¬ (4000 : Int) < ((se : Nat) : Int) := by omega
                        rw [if_neg (by rintro (h | h) <;> omega)] at hF
                        rw [hde] at hexp
                        rw [hdm] at hF c2
                        have hw64 : IntKind.i64.wrap ((se : Nat) : Int) = ((se : Nat) : Int) := by
                          rw [IntKind.wrap_i64]
                          omega
                        rw [if_neg (by decide)] at hexp
                        have c11 : ¬ ((se : Nat) : Int) < -1074 := by omega
                        rw [hexp] at hF
                        have hnl := nearest_le sm ((se : Nat) : Int)
                        obtain ⟨wf1, wf2, wf3⟩ := word_facts false hnl
                        have hsm0 : sm ≠ 0 := by omega
                        have kro := fun w => rounded_any false false (w := sm) (e := ((se : Nat) : Int)) (by omega) (by omega) (by omega) w
                        rw [rnd_nearest false ((se : Nat) : Int) hsm0 (by omega)] at kro
                        have hwn : D.word false (D.nearest false sm ((se : Nat) : Int)) = D.nearest false sm ((se : Nat) : Int) := by
                          obtain ⟨r, h1, h2⟩ := nearest_rung false sm ((se : Nat) : Int)
                          rw [h2 false, word_f, word_f]
                        rw [← hwn] at kro
                        have hwv : wv sm = .agg #[.int .u64 0, .int .u64 ((sm : Nat) : Int)] := by
                          unfold wv
                          rw [Nat.div_eq_of_lt (by omega), Nat.mod_eq_of_lt (by omega)]
                          rfl
                        rw [hwv] at kro
                        have hwlt : D.word false (D.nearest false sm ((se : Nat) : Int)) < 18446744073709551616 := by
                          have := word_sgn false (D.nearest false sm ((se : Nat) : Int))
                          have h2 : sgn false ≤ 9223372036854775808 := by decide
                          have h3 : infB = 9218868437227405312 := rfl
                          omega
                        have fA := andNot_sign (D.word false (D.nearest false sm ((se : Nat) : Int))) hwlt
                        have wf4 : D.word false (D.nearest false sm ((se : Nat) : Int)) % 9223372036854775808 = D.nearest false sm ((se : Nat) : Int) := wf3
                        rw [wf4] at fA
                        obtain ⟨r, hr⟩ : ∃ x, x = D.nearest false sm ((se : Nat) : Int) := ⟨_, rfl⟩
                        rw [← hr] at hF kro fA
                        obtain ⟨wd, hwd⟩ : ∃ x, x = D.word false r := ⟨_, rfl⟩
                        rw [← hwd] at hF kro fA
                        rw [show ((sgn false : Nat) : Int) = 0 from rfl] at kro
                        clear wf1 wf2 wf3 wf4 hnl hwn hwv hwlt hr hwd
                        by_cases c12 : r = infB
                        · rw [if_pos (.inr c12)] at hF
                          rw [c12, show ((infB : Nat) : Int) = 9218868437227405312 from rfl] at fA
                          have HF := Lib.hid hF
                          clear hF hF3 hexp hso hsle hsm c1 c2 hxc hEX hxsz hexl hn hpp hso2 hsle2 hse he2 hE2 c6 c9 c10 hdm hde c12 hsm0
                          go_wp2_with (first | (go_at_call 66; first | (with_reducible (refine (kr _).mono ?_); rintro _ _ ⟨rfl, hb⟩; replace hG := Lib.hid (grow_trans hG.out hb); clear hb) | (with_reducible (refine (kr2 _).mono ?_); rintro _ _ ⟨rfl, hb⟩; replace hG := Lib.hid (grow_trans hG.out hb); clear hb)) | (go_at_call 44; with_reducible (refine (kro _).mono ?_); rintro _ _ ⟨rfl, hb⟩; replace hG := Lib.hid (grow_trans hG.out hb); clear hb))
                          go_ret2
                          exact ⟨by rw [HF.out]; rfl, hG.out⟩
                        · rw [if_neg (by rintro (h | h); exact c11 h; exact c12 h)] at hF
                          have h3 : infB = 9218868437227405312 := rfl
                          have hri : (((r : Nat) : Int) == 9218868437227405312) = false := beq_eq_false_iff_ne.2 fun h => c12 (by omega)
                          clear h3
                          have HF := Lib.hid hF
                          clear hF hF3 hexp hso hsle hsm c1 c2 hxc hEX hxsz hexl hn hpp hso2 hsle2 hse he2 hE2 c6 c9 c10 hdm hde c12 hsm0
                          go_wp2_with (first | (go_at_call 66; first | (with_reducible (refine (kr _).mono ?_); rintro _ _ ⟨rfl, hb⟩; replace hG := Lib.hid (grow_trans hG.out hb); clear hb) | (with_reducible (refine (kr2 _).mono ?_); rintro _ _ ⟨rfl, hb⟩; replace hG := Lib.hid (grow_trans hG.out hb); clear hb)) | (go_at_call 44; with_reducible (refine (kro _).mono ?_); rintro _ _ ⟨rfl, hb⟩; replace hG := Lib.hid (grow_trans hG.out hb); clear hb))
                          go_ret2
                          exact ⟨by rw [HF.out]; rfl, hG.out⟩
              · rw [tail_bad (.inr (.inr fun _ => c4))] at hF
                have HF := Lib.hid hF
                have kr2 := kr
                have hp1 : ((((t[lead t]'c3).toNat : Nat) : Int) != 112) = true := bne_iff_ne.2 fun h => c4 (UInt8.toNat_inj.1 (by show (t[lead t]'c3).toNat = 112; omega))
                obtain ⟨pi, hpi⟩ : ∃ z : Int, z = (((t[lead t]'c3).toNat : Nat) : Int) := ⟨_, rfl⟩
                rw [← hpi] at hixp hp1
                clear hF c1 c2 c4 hTS hpi
                go_wp2_with (first | (go_at_call 66; first | (with_reducible (refine (kr _).mono ?_); rintro _ _ ⟨rfl, hb⟩; replace hG := Lib.hid (grow_trans hG.out hb); clear hb) | (with_reducible (refine (kr2 _).mono ?_); rintro _ _ ⟨rfl, hb⟩; replace hG := Lib.hid (grow_trans hG.out hb); clear hb)))
                go_ret2
                exact ⟨by rw [HF.out]; rfl, hG.out⟩
            · rw [tail_bad (.inr (.inr fun k => absurd k c3))] at hF
              have HF := Lib.hid hF
              have kr2 := kr
              have hnl : lead t = t.length := by omega
              rw [hnl] at kr2 hixn hwm
              clear hF c1 c2 hTS hnl kr
              have kr := kr2
              go_wp2_with (first | (go_at_call 66; first | (with_reducible (refine (kr _).mono ?_); rintro _ _ ⟨rfl, hb⟩; replace hG := Lib.hid (grow_trans hG.out hb); clear hb) | (with_reducible (refine (kr2 _).mono ?_); rintro _ _ ⟨rfl, hb⟩; replace hG := Lib.hid (grow_trans hG.out hb); clear hb)))
              go_ret2
              exact ⟨by rw [HF.out]; rfl, hG.out⟩
end Go.Proofs.YtjlnbfpjlladoaaGreatDoor
