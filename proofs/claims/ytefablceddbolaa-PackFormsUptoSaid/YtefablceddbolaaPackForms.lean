/- PackForms: what is read of any bytes, laid again, is just these bytes. Condition: the arguments are together of bulk at most 1048576. -/
import Derived.Test.YtefablceddbolaaFormsPlain
import Derived.Test.YtefablceddbolaaAwake
import Derived.Test.YtefablceddbolaaClose
import Derived.Test.YtefablceddbolaaInts
namespace Go.Proofs.Ytefablceddbolaa.packForms
open Go.RowKit Go.WideShapes Go.ChangeShapes Go.ChangeAt
open Go.ChangeMaps (open_string shut_string)

theorem str_take {b : ByteArray} {p : Nat} : str (b.data.toList.take p) = b.extract 0 p := by
  apply ByteArray.ext
  apply Array.toList_inj.1
  rw [ByteArray.data_extract, Array.toList_extract, List.extract_eq_take_drop]
  simp [str]

theorem row_not_rdr {w : World} {base g : Nat} {b : ByteArray} {p : Nat} {e : Int} {v : Value} {n : Nat} {xs : List Value} (h : w.ownsRow base 5 1 v n xs) (hR : Rdr w g b p e) : some g ≠ v.ownBlock := by
  rcases h.2 with ⟨rfl, _⟩ | ⟨g', cap, cur, rfl, _, hh, _⟩
  · simp [Value.ownBlock]
  · intro he
    have : g' = g := by simpa [Value.ownBlock] using he.symm
    subst this
    unfold Rdr at hR
    rw [hh] at hR
    injection hR with hR
    injection hR with _ ht
    exact absurd ht (by decide)

theorem conv_take {base : Nat} {v : Value} {q n : Nat} {b : ByteArray} {w : World} (h : w.ownsRow base 5 1 v n ((b.data.toList.take q).map B)) :
    (convert 30 9 v).run Try.prog w = .ok (.string (b.extract 0 q)) w := by
  have := run_convert_own (P := Try.prog) Try.underlying30 Try.underlying5 Try.underlying9 h
  rw [str_take] at this
  exact this

theorem at_same (g : Nat) (b : ByteArray) (p : Nat) (e : Int) (w : World) (hR : Rdr w g b p e) :
    Calls Try.prog 23 #[.pointer (some ⟨g, 0, none⟩)] w fun x w' => x = .returned (.int .i64 (p : Int)) ∧ w' = w :=
  (at_any g b p e w hR).mono fun _ _ ⟨h1, h2⟩ => ⟨h1, h2.symm⟩

set_option maxHeartbeats 4000000 in
set_option maxRecDepth 100000 in
theorem walk (b : ByteArray) (A : Option Addr) (n c : Nat) (l : List Int) (w : World) (hb : b.size < 1048577) (hsl : Sl w w.heap.size 1 A n (intCell .i64 l)) (hn : n < 1048577) :
    Calls Try.prog 6 #[.string b, .slice A n c] w fun e w' => e = .returned (.bool true) ∧ Below w.heap.size w w' := by
  have HSL := Lib.hid hsl
  clear hsl
  obtain ⟨i0, hi, hz0, hz1, hz2⟩ := info_parts Try.info5
  go_enter Try.func6, Try.ntmps6
  go_wp2_with fail
  refine (read_any _ _).mono ?_
  rintro e w1 ⟨rfl, hR1, hb1, hs1⟩
  have HS := Lib.hid hs1
  clear hs1
  go_wp2_with fail
  refine (awake_any _).mono ?_
  rintro e w2 ⟨rfl, hb2⟩
  have hlt : w.heap.size < w1.heap.size := by have := HS.out; omega
  have hR2 := hR1.below hb2 hlt
  have hB2 : Below w.heap.size w w2 := hb1.trans (hb2.mono hb1.size)
  have hB3 : Below w.heap.size w (w2.alloc (.cells #[] 5)) := hB2.alloc hB2.size _
  have hR3 := hR2.alloc (.cells #[] 5)
  go_wp2
  go_loopw [6, 7] (fun ov i wr => ∃ (k p : Nat), k ≤ n ∧ i = .int .i64 (k : Int) ∧ p ≤ b.size ∧ Rdr wr w.heap.size b p 0 ∧ wr.ownsRow w.heap.size 5 1 ov p ((b.data.toList.take p).map B) ∧ Below w.heap.size w wr) (fun _ i _ => n - (intOf i).toNat)
  case atStart => exact ⟨0, 0, Nat.zero_le _, rfl, Nat.zero_le _, hR3, World.ownsRow_lit w2 #[] 0 hB2.size (by decide) rfl, hB3⟩
  case round =>
    obtain ⟨k, p, hk, rfl, hp, hRr, hown, hBr⟩ := hrel
    clear hR1 hb1 hb2 hR2 hB2 hB3 hR3
    have hz := hBr.size
    by_cases hlt1 : k < n
    · obtain ⟨blk, off, rfl, hbb, hc⟩ := HSL.out (by omega)
      have q0 := (hBr.cell (p := ⟨blk, off + k, none⟩) hbb).trans (hc k (by omega))
      unfold intCell at q0
      obtain ⟨kd, hkd⟩ : ∃ kd, kd = l.getD k 0 := ⟨_, rfl⟩
      rw [← hkd] at q0
      clear hc hkd
      have HOWN := Lib.hid hown
      by_cases k1 : kd = 1
      · subst k1
        obtain ⟨m, q, f, hv, hm, _, hst⟩ := step_num b p 18446744073709551615 21 hp (by decide)
        have hc := rNum w.heap.size b p 0 18446744073709551615 wr hRr hp (by omega) (by decide)
        rw [hv] at hc
        have HC := Lib.hid hc
        have HST := Lib.hid hst
        clear hv hc hst
        go_wp2_with fail
        refine HC.out.mono ?_
        rintro x w3 ⟨rfl, hR3, hg3⟩
        go_wp2_with fail
        refine (Num_any m _ hm).mono ?_
        rintro x w4 ⟨rfl, hb4⟩
        have hR4 : Rdr w4 w.heap.size b q f := hR3.below hb4 hR3.lt
        have ho4 := own_kept (own_kept_rdr hown hRr hg3) hb4
        have hB4 : Below w.heap.size w w4 := (hBr.trans (below_of_only hg3 (Nat.le_refl _) hz)).trans (hb4.mono (Nat.le_trans hz hg3.size))
        obtain ⟨SS, hSS⟩ : ∃ SS, SS = vb m := ⟨_, rfl⟩
        rw [← hSS] at HST ⊢
        clear hSS
        go_wp2_with fail
        refine (fault_any _ _ _ _ _ hR4).mono ?_
        by_cases hf : f = 0
        · subst hf
          rw [if_pos rfl]
          rintro x w5 ⟨rfl, nd, rfl⟩
          obtain ⟨hpq, hqb, hS⟩ : p ≤ q ∧ q ≤ b.size ∧ SS = (b.data.toList.drop p).take (q - p) := by
            rcases HST.out with ⟨h, _⟩ | ⟨_, h1, h2, h3⟩
            · exact absurd rfl h
            · exact ⟨h1, h2, h3⟩
          have hlen : SS.length = q - p := by rw [hS, List.length_take, drop_len]; omega
          have HLS := Lib.hid hlen
          have HSS := Lib.hid hS
          have ho5 : (w4.drewN nd).ownsRow w.heap.size 5 1 u6 p ((b.data.toList.take p).map B) := ho4
          have hz5 : w.heap.size ≤ (w4.drewN nd).heap.size := hB4.size
          clear hS hlen
          go_wp2_with (at_builtin; refine wpList_append_str rfl (.tmp 74) (.tmp 75) 30 9 rfl w.heap.size 5 i0 Try.underlying30 Try.underlying9 hi hz0 hz1 hz2 _ _ _ rfl ho5 SS rfl (by have := HLS.out; omega) hz5 ?_; intro v' w6 ho6 hb6 hg6)
          have e1 : p + SS.length = q := by have := HLS.out; omega
          rw [e1, HSS.out, take_more hpq] at ho6
          have hg6 : (w4.drewN nd).grownBy w6 u6.ownBlock := hg6
          have hR6 : Rdr w6 w.heap.size b q 0 := (hR4.drewN nd).grown hg6 (row_not_rdr ho4 hR4)
          have hB6 : Below w.heap.size w w6 := (below_drewN hB4 nd).trans hb6
          have hcv : ∀ n, (convert 30 9 v').run Try.prog (w6.drewN n) = .ok (.string (b.extract 0 q)) (w6.drewN n) := fun n => conv_take ho6
          have hq1 : ¬ (b.size : Int) < q := by omega
          have HO := Lib.hid ho6
          obtain ⟨rfl, hq0⟩ | ⟨g', cap, rfl, hcap⟩ := own_shape ho6
          · clear ho6
            subst hq0
            go_quiet ((go_at_call 23; refine Calls.quiet_of_same (at_same _ _ _ _ _ (hR6.drewN _))))
            clear hcv hq1
            go_wp2
            go_roundw
            case rel => exact ⟨k + 1, 0, by omega, by go_num, hqb, hR6.drewN _, HO.out, below_drewN hB6 _⟩
            case measure => simp [intOf]; omega
          · clear ho6
            go_quiet ((go_at_call 23; refine Calls.quiet_of_same (at_same _ _ _ _ _ (hR6.drewN _))))
            clear hcv hq1
            go_wp2
            go_roundw
            case rel => exact ⟨k + 1, q, by omega, by go_num, hqb, hR6.drewN _, HO.out, below_drewN hB6 _⟩
            case measure => simp [intOf]; omega
        · rw [if_neg hf]
          rintro x w5 ⟨rfl, nd, rfl⟩
          have hqp : q = p := by
            rcases HST.out with ⟨_, h⟩ | ⟨h, _⟩
            · exact h
            · exact absurd h hf
          subst hqp
          have hRz : Rdr (w4.drewN nd) w.heap.size b q f := hR4.drewN nd
          have hoz : (w4.drewN nd).ownsRow w.heap.size 5 1 u6 q ((b.data.toList.take q).map B) := ho4
          have hBz : Below w.heap.size w (w4.drewN nd) := below_drewN hB4 nd
          generalize w4.drewN nd = wz at hRz hoz hBz ⊢
          have hcv : ∀ n, (convert 30 9 u6).run Try.prog (wz.drewN n) = .ok (.string (b.extract 0 q)) (wz.drewN n) := fun n => conv_take hoz
          have hf1 : (f == 0) = false := by rw [beq_eq_false_iff_ne]; exact hf
          have hq1 : ¬ (b.size : Int) < q := by omega
          obtain ⟨rfl, hq0⟩ | ⟨g', cap, rfl, hcap⟩ := own_shape hoz
          · clear ho4 hoz
            subst hq0
            go_wp2
            go_quiet ((go_at_call 23; refine Calls.quiet_of_same (at_same _ _ _ _ _ (hRz.drewN _))))
            clear hcv hq1
            go_wp2
            go_ret
            exact ⟨rfl, below_drewN hBz _⟩
          · clear ho4 hoz
            go_wp2
            go_quiet ((go_at_call 23; refine Calls.quiet_of_same (at_same _ _ _ _ _ (hRz.drewN _))))
            clear hcv hq1
            go_wp2
            go_ret
            exact ⟨rfl, below_drewN hBz _⟩
      · by_cases k2 : kd = 2
        · subst k2
          obtain ⟨m, q, f, hv, hm, hmost, hst⟩ := step_num b p 9223372036854775807 23 hp (by decide)
          have hc := rList w.heap.size b p 0 9223372036854775807 wr hRr hp (by omega) (by decide)
          rw [show (9223372036854775807 : Int).toNat = 9223372036854775807 from rfl] at hc
          rw [hv] at hc
          have HC := Lib.hid hc
          have HST := Lib.hid hst
          clear hv hc hst
          go_wp2_with fail
          refine HC.out.mono ?_
          rintro x w3 ⟨rfl, hR3, hg3⟩
          go_wp2_with fail
          refine (Num_any m _ hm).mono ?_
          rintro x w4 ⟨rfl, hb4⟩
          have hR4 : Rdr w4 w.heap.size b q f := hR3.below hb4 hR3.lt
          have ho4 := own_kept (own_kept_rdr hown hRr hg3) hb4
          have hB4 : Below w.heap.size w w4 := (hBr.trans (below_of_only hg3 (Nat.le_refl _) hz)).trans (hb4.mono (Nat.le_trans hz hg3.size))
          obtain ⟨SS, hSS⟩ : ∃ SS, SS = vb m := ⟨_, rfl⟩
          rw [← hSS] at HST ⊢
          clear hSS
          go_wp2_with fail
          refine (fault_any _ _ _ _ _ hR4).mono ?_
          by_cases hf : f = 0
          · subst hf
            rw [if_pos rfl]
            rintro x w5 ⟨rfl, nd, rfl⟩
            obtain ⟨hpq, hqb, hS⟩ : p ≤ q ∧ q ≤ b.size ∧ SS = (b.data.toList.drop p).take (q - p) := by
              rcases HST.out with ⟨h, _⟩ | ⟨_, h1, h2, h3⟩
              · exact absurd rfl h
              · exact ⟨h1, h2, h3⟩
            have hlen : SS.length = q - p := by rw [hS, List.length_take, drop_len]; omega
            have HLS := Lib.hid hlen
            have HSS := Lib.hid hS
            have ho5 : (w4.drewN nd).ownsRow w.heap.size 5 1 u6 p ((b.data.toList.take p).map B) := ho4
            have hz5 : w.heap.size ≤ (w4.drewN nd).heap.size := hB4.size
            clear hS hlen
            go_wp2_with (at_builtin; refine wpList_append_str rfl (.tmp 74) (.tmp 75) 30 9 rfl w.heap.size 5 i0 Try.underlying30 Try.underlying9 hi hz0 hz1 hz2 _ _ _ rfl ho5 SS rfl (by have := HLS.out; omega) hz5 ?_; intro v' w6 ho6 hb6 hg6)
            have e1 : p + SS.length = q := by have := HLS.out; omega
            rw [e1, HSS.out, take_more hpq] at ho6
            have hg6 : (w4.drewN nd).grownBy w6 u6.ownBlock := hg6
            have hR6 : Rdr w6 w.heap.size b q 0 := (hR4.drewN nd).grown hg6 (row_not_rdr ho4 hR4)
            have hB6 : Below w.heap.size w w6 := (below_drewN hB4 nd).trans hb6
            have hcv : ∀ n, (convert 30 9 v').run Try.prog (w6.drewN n) = .ok (.string (b.extract 0 q)) (w6.drewN n) := fun n => conv_take ho6
            have hq1 : ¬ (b.size : Int) < q := by omega
            have HO := Lib.hid ho6
            obtain ⟨rfl, hq0⟩ | ⟨g', cap, rfl, hcap⟩ := own_shape ho6
            · clear ho6
              subst hq0
              go_quiet ((go_at_call 23; refine Calls.quiet_of_same (at_same _ _ _ _ _ (hR6.drewN _))))
              clear hcv hq1
              go_wp2
              go_roundw
              case rel => exact ⟨k + 1, 0, by omega, by go_num, hqb, hR6.drewN _, HO.out, below_drewN hB6 _⟩
              case measure => simp [intOf]; omega
            · clear ho6
              go_quiet ((go_at_call 23; refine Calls.quiet_of_same (at_same _ _ _ _ _ (hR6.drewN _))))
              clear hcv hq1
              go_wp2
              go_roundw
              case rel => exact ⟨k + 1, q, by omega, by go_num, hqb, hR6.drewN _, HO.out, below_drewN hB6 _⟩
              case measure => simp [intOf]; omega
          · rw [if_neg hf]
            rintro x w5 ⟨rfl, nd, rfl⟩
            have hqp : q = p := by
              rcases HST.out with ⟨_, h⟩ | ⟨h, _⟩
              · exact h
              · exact absurd h hf
            subst hqp
            have hRz : Rdr (w4.drewN nd) w.heap.size b q f := hR4.drewN nd
            have hoz : (w4.drewN nd).ownsRow w.heap.size 5 1 u6 q ((b.data.toList.take q).map B) := ho4
            have hBz : Below w.heap.size w (w4.drewN nd) := below_drewN hB4 nd
            generalize w4.drewN nd = wz at hRz hoz hBz ⊢
            have hcv : ∀ n, (convert 30 9 u6).run Try.prog (wz.drewN n) = .ok (.string (b.extract 0 q)) (wz.drewN n) := fun n => conv_take hoz
            have hf1 : (f == 0) = false := by rw [beq_eq_false_iff_ne]; exact hf
            have hq1 : ¬ (b.size : Int) < q := by omega
            obtain ⟨rfl, hq0⟩ | ⟨g', cap, rfl, hcap⟩ := own_shape hoz
            · clear ho4 hoz
              subst hq0
              go_wp2
              go_quiet ((go_at_call 23; refine Calls.quiet_of_same (at_same _ _ _ _ _ (hRz.drewN _))))
              clear hcv hq1
              go_wp2
              go_ret
              exact ⟨rfl, below_drewN hBz _⟩
            · clear ho4 hoz
              go_wp2
              go_quiet ((go_at_call 23; refine Calls.quiet_of_same (at_same _ _ _ _ _ (hRz.drewN _))))
              clear hcv hq1
              go_wp2
              go_ret
              exact ⟨rfl, below_drewN hBz _⟩
        · by_cases k3 : kd = 3
          · subst k3
            obtain ⟨m, q, f, hv, hm, hst⟩ := step_bits b p hp
            have hc := rBits w.heap.size b p 0 wr hRr hp (by omega)
            rw [hv] at hc
            have HC := Lib.hid hc
            have HST := Lib.hid hst
            clear hv hc hst
            go_wp2_with fail
            refine HC.out.mono ?_
            rintro x w3 ⟨rfl, hR3, hg3⟩
            go_wp2_with fail
            refine (Bits_any m _ hm).mono ?_
            rintro x w4 ⟨rfl, hb4⟩
            have hR4 : Rdr w4 w.heap.size b q f := hR3.below hb4 hR3.lt
            have ho4 := own_kept (own_kept_rdr hown hRr hg3) hb4
            have hB4 : Below w.heap.size w w4 := (hBr.trans (below_of_only hg3 (Nat.le_refl _) hz)).trans (hb4.mono (Nat.le_trans hz hg3.size))
            obtain ⟨SS, hSS⟩ : ∃ SS, SS = bb m := ⟨_, rfl⟩
            rw [← hSS] at HST ⊢
            clear hSS
            go_wp2_with fail
            refine (fault_any _ _ _ _ _ hR4).mono ?_
            by_cases hf : f = 0
            · subst hf
              rw [if_pos rfl]
              rintro x w5 ⟨rfl, nd, rfl⟩
              obtain ⟨hpq, hqb, hS⟩ : p ≤ q ∧ q ≤ b.size ∧ SS = (b.data.toList.drop p).take (q - p) := by
                rcases HST.out with ⟨h, _⟩ | ⟨_, h1, h2, h3⟩
                · exact absurd rfl h
                · exact ⟨h1, h2, h3⟩
              have hlen : SS.length = q - p := by rw [hS, List.length_take, drop_len]; omega
              have HLS := Lib.hid hlen
              have HSS := Lib.hid hS
              have ho5 : (w4.drewN nd).ownsRow w.heap.size 5 1 u6 p ((b.data.toList.take p).map B) := ho4
              have hz5 : w.heap.size ≤ (w4.drewN nd).heap.size := hB4.size
              clear hS hlen
              go_wp2_with (at_builtin; refine wpList_append_str rfl (.tmp 74) (.tmp 75) 30 9 rfl w.heap.size 5 i0 Try.underlying30 Try.underlying9 hi hz0 hz1 hz2 _ _ _ rfl ho5 SS rfl (by have := HLS.out; omega) hz5 ?_; intro v' w6 ho6 hb6 hg6)
              have e1 : p + SS.length = q := by have := HLS.out; omega
              rw [e1, HSS.out, take_more hpq] at ho6
              have hg6 : (w4.drewN nd).grownBy w6 u6.ownBlock := hg6
              have hR6 : Rdr w6 w.heap.size b q 0 := (hR4.drewN nd).grown hg6 (row_not_rdr ho4 hR4)
              have hB6 : Below w.heap.size w w6 := (below_drewN hB4 nd).trans hb6
              have hcv : ∀ n, (convert 30 9 v').run Try.prog (w6.drewN n) = .ok (.string (b.extract 0 q)) (w6.drewN n) := fun n => conv_take ho6
              have hq1 : ¬ (b.size : Int) < q := by omega
              have HO := Lib.hid ho6
              obtain ⟨rfl, hq0⟩ | ⟨g', cap, rfl, hcap⟩ := own_shape ho6
              · clear ho6
                subst hq0
                go_quiet ((go_at_call 23; refine Calls.quiet_of_same (at_same _ _ _ _ _ (hR6.drewN _))))
                clear hcv hq1
                go_wp2
                go_roundw
                case rel => exact ⟨k + 1, 0, by omega, by go_num, hqb, hR6.drewN _, HO.out, below_drewN hB6 _⟩
                case measure => simp [intOf]; omega
              · clear ho6
                go_quiet ((go_at_call 23; refine Calls.quiet_of_same (at_same _ _ _ _ _ (hR6.drewN _))))
                clear hcv hq1
                go_wp2
                go_roundw
                case rel => exact ⟨k + 1, q, by omega, by go_num, hqb, hR6.drewN _, HO.out, below_drewN hB6 _⟩
                case measure => simp [intOf]; omega
            · rw [if_neg hf]
              rintro x w5 ⟨rfl, nd, rfl⟩
              have hqp : q = p := by
                rcases HST.out with ⟨_, h⟩ | ⟨h, _⟩
                · exact h
                · exact absurd h hf
              subst hqp
              have hRz : Rdr (w4.drewN nd) w.heap.size b q f := hR4.drewN nd
              have hoz : (w4.drewN nd).ownsRow w.heap.size 5 1 u6 q ((b.data.toList.take q).map B) := ho4
              have hBz : Below w.heap.size w (w4.drewN nd) := below_drewN hB4 nd
              generalize w4.drewN nd = wz at hRz hoz hBz ⊢
              have hcv : ∀ n, (convert 30 9 u6).run Try.prog (wz.drewN n) = .ok (.string (b.extract 0 q)) (wz.drewN n) := fun n => conv_take hoz
              have hf1 : (f == 0) = false := by rw [beq_eq_false_iff_ne]; exact hf
              have hq1 : ¬ (b.size : Int) < q := by omega
              obtain ⟨rfl, hq0⟩ | ⟨g', cap, rfl, hcap⟩ := own_shape hoz
              · clear ho4 hoz
                subst hq0
                go_wp2
                go_quiet ((go_at_call 23; refine Calls.quiet_of_same (at_same _ _ _ _ _ (hRz.drewN _))))
                clear hcv hq1
                go_wp2
                go_ret
                exact ⟨rfl, below_drewN hBz _⟩
              · clear ho4 hoz
                go_wp2
                go_quiet ((go_at_call 23; refine Calls.quiet_of_same (at_same _ _ _ _ _ (hRz.drewN _))))
                clear hcv hq1
                go_wp2
                go_ret
                exact ⟨rfl, below_drewN hBz _⟩
          · have k1f : (kd == 1) = false := by rw [beq_eq_false_iff_ne]; exact k1
            have k2f : (kd == 2) = false := by rw [beq_eq_false_iff_ne]; exact k2
            have k3f : (kd == 3) = false := by rw [beq_eq_false_iff_ne]; exact k3
            obtain ⟨m, q, f, hv, hm, hst⟩ := step_text b p 9223372036854775807 hp
            have hc := rText w.heap.size b p 0 9223372036854775807 wr hRr hp (by omega) (by decide)
            rw [show (9223372036854775807 : Int).toNat = 9223372036854775807 from rfl] at hc
            rw [hv] at hc
            have HC := Lib.hid hc
            have HST := Lib.hid hst
            clear hv hc hst
            go_wp2_with fail
            refine HC.out.mono ?_
            rintro x w3 ⟨rfl, hR3, hg3⟩
            go_wp2_with fail
            refine (Text_any m _ (by omega)).mono ?_
            rintro x w4 ⟨rfl, hb4⟩
            have hR4 : Rdr w4 w.heap.size b q f := hR3.below hb4 hR3.lt
            have ho4 := own_kept (own_kept_rdr hown hRr hg3) hb4
            have hB4 : Below w.heap.size w w4 := (hBr.trans (below_of_only hg3 (Nat.le_refl _) hz)).trans (hb4.mono (Nat.le_trans hz hg3.size))
            obtain ⟨SS, hSS⟩ : ∃ SS, SS = tb m.data.toList := ⟨_, rfl⟩
            rw [← hSS] at HST ⊢
            clear hSS
            go_wp2_with fail
            refine (fault_any _ _ _ _ _ hR4).mono ?_
            by_cases hf : f = 0
            · subst hf
              rw [if_pos rfl]
              rintro x w5 ⟨rfl, nd, rfl⟩
              obtain ⟨hpq, hqb, hS⟩ : p ≤ q ∧ q ≤ b.size ∧ SS = (b.data.toList.drop p).take (q - p) := by
                rcases HST.out with ⟨h, _⟩ | ⟨_, h1, h2, h3⟩
                · exact absurd rfl h
                · exact ⟨h1, h2, h3⟩
              have hlen : SS.length = q - p := by rw [hS, List.length_take, drop_len]; omega
              have HLS := Lib.hid hlen
              have HSS := Lib.hid hS
              have ho5 : (w4.drewN nd).ownsRow w.heap.size 5 1 u6 p ((b.data.toList.take p).map B) := ho4
              have hz5 : w.heap.size ≤ (w4.drewN nd).heap.size := hB4.size
              clear hS hlen
              go_wp2_with (at_builtin; refine wpList_append_str rfl (.tmp 74) (.tmp 75) 30 9 rfl w.heap.size 5 i0 Try.underlying30 Try.underlying9 hi hz0 hz1 hz2 _ _ _ rfl ho5 SS rfl (by have := HLS.out; omega) hz5 ?_; intro v' w6 ho6 hb6 hg6)
              have e1 : p + SS.length = q := by have := HLS.out; omega
              rw [e1, HSS.out, take_more hpq] at ho6
              have hg6 : (w4.drewN nd).grownBy w6 u6.ownBlock := hg6
              have hR6 : Rdr w6 w.heap.size b q 0 := (hR4.drewN nd).grown hg6 (row_not_rdr ho4 hR4)
              have hB6 : Below w.heap.size w w6 := (below_drewN hB4 nd).trans hb6
              have hcv : ∀ n, (convert 30 9 v').run Try.prog (w6.drewN n) = .ok (.string (b.extract 0 q)) (w6.drewN n) := fun n => conv_take ho6
              have hq1 : ¬ (b.size : Int) < q := by omega
              have HO := Lib.hid ho6
              obtain ⟨rfl, hq0⟩ | ⟨g', cap, rfl, hcap⟩ := own_shape ho6
              · clear ho6
                subst hq0
                go_quiet ((go_at_call 23; refine Calls.quiet_of_same (at_same _ _ _ _ _ (hR6.drewN _))))
                clear hcv hq1
                go_wp2
                go_roundw
                case rel => exact ⟨k + 1, 0, by omega, by go_num, hqb, hR6.drewN _, HO.out, below_drewN hB6 _⟩
                case measure => simp [intOf]; omega
              · clear ho6
                go_quiet ((go_at_call 23; refine Calls.quiet_of_same (at_same _ _ _ _ _ (hR6.drewN _))))
                clear hcv hq1
                go_wp2
                go_roundw
                case rel => exact ⟨k + 1, q, by omega, by go_num, hqb, hR6.drewN _, HO.out, below_drewN hB6 _⟩
                case measure => simp [intOf]; omega
            · rw [if_neg hf]
              rintro x w5 ⟨rfl, nd, rfl⟩
              have hqp : q = p := by
                rcases HST.out with ⟨_, h⟩ | ⟨h, _⟩
                · exact h
                · exact absurd h hf
              subst hqp
              have hRz : Rdr (w4.drewN nd) w.heap.size b q f := hR4.drewN nd
              have hoz : (w4.drewN nd).ownsRow w.heap.size 5 1 u6 q ((b.data.toList.take q).map B) := ho4
              have hBz : Below w.heap.size w (w4.drewN nd) := below_drewN hB4 nd
              generalize w4.drewN nd = wz at hRz hoz hBz ⊢
              have hcv : ∀ n, (convert 30 9 u6).run Try.prog (wz.drewN n) = .ok (.string (b.extract 0 q)) (wz.drewN n) := fun n => conv_take hoz
              have hf1 : (f == 0) = false := by rw [beq_eq_false_iff_ne]; exact hf
              have hq1 : ¬ (b.size : Int) < q := by omega
              obtain ⟨rfl, hq0⟩ | ⟨g', cap, rfl, hcap⟩ := own_shape hoz
              · clear ho4 hoz
                subst hq0
                go_wp2
                go_quiet ((go_at_call 23; refine Calls.quiet_of_same (at_same _ _ _ _ _ (hRz.drewN _))))
                clear hcv hq1
                go_wp2
                go_ret
                exact ⟨rfl, below_drewN hBz _⟩
              · clear ho4 hoz
                go_wp2
                go_quiet ((go_at_call 23; refine Calls.quiet_of_same (at_same _ _ _ _ _ (hRz.drewN _))))
                clear hcv hq1
                go_wp2
                go_ret
                exact ⟨rfl, below_drewN hBz _⟩
    · have HO := Lib.hid hown
      obtain ⟨rfl, hq0⟩ | ⟨g', cap, rfl, hcap⟩ := own_shape hown
      · subst hq0
        go_wp2_with fail
        refine (left_any _ _ _ _ _ hRr hp (by omega)).mono ?_
        rintro x w5 ⟨rfl, nd, rfl⟩
        go_wp2
        go_ret
        exact ⟨by go_num, below_drewN hBr _⟩
      · go_wp2_with fail
        refine (left_any _ _ _ _ _ hRr hp (by omega)).mono ?_
        rintro x w5 ⟨rfl, nd, rfl⟩
        go_wp2
        go_ret
        exact ⟨by go_num, below_drewN hBr _⟩

-- LIFT
set_option maxRecDepth 100000 in
theorem contract (H : Type) (enc : TypeId × Value → H) (W : World) (base : Nat) (args : Array Value) (ds gs : List (DataW H)) (before : List MemPlace)
    (hval : ∀ (j : Nat) t v, Try.f6.params[j]? = some t → args[j]? = some v → Value.okWide Try.prog W .any base t v)
    (hW : DataW.Whole enc Try.prog Try.f6.params.toList Rows.packFormsSpec.vars false W args.toList ds gs before) (hk : Rows.uptoSmall H (ds ++ gs) = true) :
    Calls Try.prog 6 args W fun e W' => ∃ v, e = .returned v ∧ Rows.packFormsSpec.post enc Try.prog Try.f6 false true false false W args v W' := by
  have hts : Try.f6.params.toList.all (fun t => Try.prog.readableRec t && decide (t < Try.prog.types.size)) = true := by kernel_rfl
  have hW' := hW
  obtain ⟨p, q, hA0, hV, rfl, hfz, hnd⟩ := hW
  have hA : DataW.TrodAll enc Try.prog W 0 (fun _ => true) true Try.f6.params.toList args.toList ds p := hA0
  rw [Try.params6] at hA hval
  obtain ⟨v0, vs0, d0, ds0, p0, q0, hargs, rfl, rfl, h0, r0⟩ := trodAll_cons hA
  obtain ⟨v1, vs1, d1, ds1, p1, q1, rfl, rfl, rfl, h1, r1⟩ := trodAll_cons r0
  obtain ⟨rfl, rfl, rfl⟩ := trodAll_nil r1
  obtain rfl : args = #[v0, v1] := by cases args; simp_all
  obtain ⟨rfl, rfl⟩ := trodVars_none hV
  have hfn : Rows.packFormsSpec.fn H ([d0, d1] ++ []) = { results := [.lit (.bool true)], args := [d0, d1] } := rfl
  have hfin := fun W' (hbel : Below W.heap.size W W') => law_post (f := Try.f6) (s := Rows.packFormsSpec) 4 Try.laid hts rfl Try.underlying4 rfl hfn hW' hbel
  clear hA0 hts hfn
  obtain ⟨s0, rfl, rfl, rfl, w0⟩ := open_string Try.underlying9 (hval 0 9 v0 rfl rfl) h0
  simp only [List.append_nil] at hk
  have b0 : s0.size < 1048576 := bulk_string (bulk_mem hk _ (by simp))
  obtain ⟨A1, n1, c1, l1, rfl, sl1, len1, m1, wf1⟩ := open_int_slice Try.underlying37 Try.underlying3 (by kernel_rfl) (hval 1 37 v1 rfl rfl) h1 (bulk_mem hk _ (by simp))
  exact (walk s0 A1 n1 c1 l1 W (by omega) sl1 (by omega)).mono fun e W' ⟨he, hg⟩ => ⟨_, he, hfin W' hg⟩

set_option maxRecDepth 100000 in
theorem lifted (os : Os) (started : os.Started) (H : Type) (enc : TypeId × Value → H) (F : Stop.Interp) :
    ReturnsInHanded {} Try.checked os 6 .any ((Rows.OpenSpec.upto Rows.packFormsSpec).pre6 enc Try.prog Try.f6 Rows.packFormsUptoRow.domain false) (((Rows.OpenSpec.upto Rows.packFormsSpec).at F).post enc Try.prog Try.f6 false true false false) := by
  refine returnsInHanded_of_cond (C := Try.checked) (s := Rows.OpenSpec.upto Rows.packFormsSpec) (k := Rows.uptoSmall) rfl Try.own started (by kernel_rfl) Try.func6
    (OpenSpec.witness (enc := enc) (C := Try.checked) (s := Rows.OpenSpec.upto Rows.packFormsSpec) (k := Rows.uptoSmall) rfl false ⟨#[], #[.string .empty, .slice none 0 0], []⟩ 8 (by kernel_rfl) (by kernel_rfl) (by kernel_rfl)
      (x := ([.lit (.string []), .nil], [], [])) (by kernel_rfl) rfl (by kernel_rfl)) ?_
  intro W base args ds gs before hval hW _ hk _
  exact contract H enc W base args ds gs before hval hW hk

theorem proved : Rows.PackFormsUptoSaid :=
  OpenClaim.holds_of_cond 6 Try.f6 rfl rfl rfl rfl rfl rfl rfl ⟨rfl, rfl, rfl, rfl, rfl⟩ rfl rfl rfl rfl rfl (by kernel_rfl) Try.func6 (by kernel_rfl)
    (of_decide_eq_true (by kernel_rfl)) (by unfold Func.isWrapper; first | (rw [if_pos (by decide +kernel)]; kernel_rfl) | (rw [if_neg (by decide +kernel)]; exact ⟨rfl, rfl⟩))
    (fun os started H enc _ F => lifted os started H enc F)

end Go.Proofs.Ytefablceddbolaa.packForms
