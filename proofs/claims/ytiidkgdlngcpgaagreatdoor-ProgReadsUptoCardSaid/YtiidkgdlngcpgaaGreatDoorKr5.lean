/- The document's words, forms, wrong and Check (contracts). -/
import Derived.Test.YtiidkgdlngcpgaaGreatDoorKp2
import Derived.Test.YtiidkgdlngcpgaaGreatDoorBw
set_option maxRecDepth 100000
namespace Go.Proofs.YtiidkgdlngcpgaaGreatDoor
open Go.RowKit Ieee

def wordsCells : Array Value := ((List.range 25).map fun o => txt (opWord o)).toArray
theorem words_at {o : Nat} (ho : o < 25) : wordsCells[o]? = some (.string ⟨(opWord o).toArray⟩) := by
  unfold wordsCells
  simp [ho]
theorem words_lit : #[Value.string { data := #[] }, txt [115, 101, 116], txt [109, 111, 118, 101], txt [97, 100, 100], txt [115, 117, 98], txt [109, 117, 108], txt [100, 105, 118], txt [109, 105, 110], txt [109, 97, 120], txt [108, 101, 115, 115], txt [111, 114, 100, 101, 114], txt [110, 101, 103], txt [97, 98, 115], txt [102, 108, 111, 111, 114], txt [106, 117, 109, 112], txt [105, 102], txt [103, 111, 116, 111], txt [99, 97, 108, 108], txt [114, 101, 116], txt [112, 117, 115, 104], txt [112, 111, 112], txt [101, 109, 105, 116], txt [119, 114, 105, 116, 101], txt [102, 97, 105, 108], txt [104, 97, 108, 116]] = wordsCells := rfl
set_option maxHeartbeats 1000000 in
theorem rword_any (op : Int) (w : World) : Calls Tryz.prog 59 #[.int .i64 op] w fun e w' => e = .returned (.string ⟨(opWord op.toNat).toArray⟩) ∧ Below w.heap.size w w' := by
  by_cases h0 : op < 0
  · have e : opWord op.toNat = [] := by rw [show op.toNat = 0 by omega]; rfl
    rw [e]
    clear e
    go_enter Tryz.func59, Tryz.ntmps59
    go_wp2
    go_ret
    exact ⟨rfl, (Below.refl _ _).alloc (Nat.le_refl _) _⟩
  · obtain ⟨o, rfl⟩ := Int.eq_ofNat_of_zero_le (show 0 ≤ op by omega)
    rw [Int.toNat_natCast]
    by_cases h1 : 25 ≤ o
    · have e : opWord o = [] := by
        obtain ⟨j, rfl⟩ : ∃ j, o = j + 25 := ⟨o - 25, by omega⟩
        rfl
      rw [e]
      clear e
      have h2 : (25 : Int) ≤ (o : Int) := by omega
      go_enter Tryz.func59, Tryz.ntmps59
      go_wp2
      go_ret
      exact ⟨rfl, (Below.refl _ _).alloc (Nat.le_refl _) _⟩
    · have h2 : ¬ (25 : Int) ≤ (o : Int) := by omega
      have h3 : (0 : Int) ≤ (o : Int) := by omega
      have h4 : (o : Int) < 25 := by omega
      have HX := Lib.hid ((Cells.new w 9 wordsCells).cell (words_at (show o < 25 by omega)))
      have HB := Lib.hid ((Below.refl w.heap.size w).alloc (Nat.le_refl _) (.cells wordsCells 9))
      go_enter Tryz.func59, Tryz.ntmps59
      go_upto_region 2 with (fail)
      have hx := HX.out
      have hb := HB.out
      rw [← words_lit] at hx hb
      generalize w.alloc (.cells #[Value.string { data := #[] }, txt [115, 101, 116], txt [109, 111, 118, 101], txt [97, 100, 100], txt [115, 117, 98], txt [109, 117, 108], txt [100, 105, 118], txt [109, 105, 110], txt [109, 97, 120], txt [108, 101, 115, 115], txt [111, 114, 100, 101, 114], txt [110, 101, 103], txt [97, 98, 115], txt [102, 108, 111, 111, 114], txt [106, 117, 109, 112], txt [105, 102], txt [103, 111, 116, 111], txt [99, 97, 108, 108], txt [114, 101, 116], txt [112, 117, 115, 104], txt [112, 111, 112], txt [101, 109, 105, 116], txt [119, 114, 105, 116, 101], txt [102, 97, 105, 108], txt [104, 97, 108, 116]] 9) = w1 at *
      have HB1 := Lib.hid hb
      clear hb HX HB
      go_wp2
      go_ret
      exact ⟨rfl, HB1.out⟩

theorem rhas_any {o : Nat} (h0 : 1 ≤ o) (ho : o < 25) (w : World) : Calls Tryz.prog 47 #[.int .i64 (o : Nat)] w fun e w' => e = .returned (.tuple #[.int .i64 (opRegs o), .bool (opN o), .bool (opK o)]) ∧ w' = w := by
  rcases o with _ | _ | _ | _ | _ | _ | _ | _ | _ | _ | _ | _ | _ | _ | _ | _ | _ | _ | _ | _ | _ | _ | _ | _ | _ | o
  · omega
  all_goals first | omega | exact calls_run 1000 (fn := Tryz.f47) Tryz.func47 (fun cs => by kernel_rfl)

theorem fcan_zero : fcan 0 = 0 := by decide
theorem word_some {o : Nat} (h0 : 1 ≤ o) (ho : o < 25) : opWord o ≠ [] := by
  rcases o with _ | _ | _ | _ | _ | _ | _ | _ | _ | _ | _ | _ | _ | _ | _ | _ | _ | _ | _ | _ | _ | _ | _ | _ | _ | o
  · omega
  all_goals first | omega | (intro h; cases h; done)

theorem rcanon_told {k : Nat} (hk : k < 2 * signB) (w : World) : Calls Tryz.prog 60 #[.int .u64 (k : Nat)] w fun e w' => e = .returned (.int .u64 ((fcan k : Nat) : Int)) ∧ w' = w := by
  have h1 : k < 2 * 9223372036854775808 := hk
  exact (rcanon_any (k : Nat) w (by omega) (by omega)).mono fun e w' ⟨he, hw⟩ => ⟨by rw [he, canon_fcan], hw.symm⟩
set_option maxHeartbeats 8000000 in
theorem rwrong_any (op a b c n : Int) (k many : Nat) (w : World) (hk : k < 2 * signB) (hm : many ≤ 64) :
    Calls Tryz.prog 26 #[.agg #[.int .i64 op, .int .i64 a, .int .i64 b, .int .i64 c, .int .i64 n, .int .u64 (k : Nat)], .int .i64 (many : Nat)] w fun e w' => e = .returned (.int .i64 (insWrong ⟨op, a, b, c, n, k⟩ many)) ∧ Below w.heap.size w w' := by
  have HB0 := Lib.hid ((Below.refl w.heap.size w).alloc (Nat.le_refl _) (.cells #[.int .i64 op, .int .i64 a, .int .i64 b, .int .i64 c, .int .i64 n, .int .u64 (k : Nat)] 43))
  have HX0 := Lib.hid (Cells.new w 43 #[.int .i64 op, .int .i64 a, .int .i64 b, .int .i64 c, .int .i64 n, .int .u64 (k : Nat)])
  have kw := fun W => rword_any op W
  by_cases h1 : op < 1 ∨ 25 ≤ op
  · have e0 : insWrong ⟨op, a, b, c, n, k⟩ many = 51 := by unfold insWrong; exact if_pos h1
    have e1 : opWord op.toNat = [] := by
      rcases h1 with h | h
      · rw [show op.toNat = 0 by omega]; rfl
      · obtain ⟨j, hj⟩ : ∃ j, op.toNat = j + 25 := ⟨op.toNat - 25, by omega⟩
        rw [hj]; rfl
    rw [e0]
    rw [e1] at kw
    clear e0 e1 h1
    go_enter Tryz.func26, Tryz.ntmps26
    go_wp2_with (go_at_call 59; go_loud (refine (kw _).mono ?_); rintro _ w2 ⟨rfl, hb2⟩; have HB2 := Lib.hid (grow_to HB0.out hb2); clear hb2)
    go_ret
    exact ⟨rfl, HB2.out⟩
  · obtain ⟨o, rfl⟩ := Int.eq_ofNat_of_zero_le (show 0 ≤ op by omega)
    have ho1 : 1 ≤ o := by omega
    have ho : o < 25 := by omega
    have hwd := word_some ho1 ho
    rw [Int.toNat_natCast] at kw
    have kh := fun W => rhas_any ho1 ho W
    have HREG : Hid (∀ i : Nat, i < 3 → (∀ j : Nat, j < i → regBad (opRegs o) j (regV a b c j) = 0) → regBad (opRegs o) i (regV a b c i) ≠ 0 → insWrong ⟨o, a, b, c, n, k⟩ many = regBad (opRegs o) i (regV a b c i)) := Lib.hid fun i hi h hb => wrong_reg h1 hi h hb
    have HTAIL : Hid ((∀ j : Nat, j < 3 → regBad (opRegs o) j (regV a b c j) = 0) → insWrong ⟨o, a, b, c, n, k⟩ many = if opN o = false ∧ n ≠ 0 then 54 else if n < 0 ∨ (many : Int) < n then 53 else if (opK o = false ∧ k ≠ 0) ∨ fcan k ≠ k then 54 else 0) := Lib.hid fun h => wrong_tail h1 h
    generalize opWord o = wd at *
    generalize opRegs o = r at *
    generalize opN o = bn at *
    generalize opK o = bk at *
    generalize insWrong ⟨o, a, b, c, n, k⟩ many = iw at *
    have t0 : (wd == ([] : List UInt8)) = false := by cases wd <;> simp_all
    clear h1 hwd
    have KH := Lib.hid kh
    clear kh
    go_enter Tryz.func26, Tryz.ntmps26
    go_upto_region 3 with (go_at_call 59; go_loud (refine (kw _).mono ?_); rintro _ w2 ⟨rfl, hb2⟩; have HB2 := Lib.hid (grow_to HB0.out hb2); have HX2 := Lib.hid (HX0.out.keep hb2); clear hb2)
    clear HB0 HX0 kw
    have c0 : w2.cell? ⟨w.heap.size, 0, none⟩ = some (.int .i64 (o : Nat)) := HX2.out.cell (j := 0) rfl
    have c1 : w2.cell? ⟨w.heap.size, 1, none⟩ = some (.int .i64 a) := HX2.out.cell (j := 1) rfl
    have c2 : w2.cell? ⟨w.heap.size, 2, none⟩ = some (.int .i64 b) := HX2.out.cell (j := 2) rfl
    have c3 : w2.cell? ⟨w.heap.size, 3, none⟩ = some (.int .i64 c) := HX2.out.cell (j := 3) rfl
    go_upto_region 4 with (go_at_call 47; go_loud (refine (KH.out _).mono ?_); rintro _ w5 ⟨rfl, e5⟩; rw [e5]; clear e5 w5)
    clear KH
    go_upto_region 5 with fail
    have HL3 := Lib.hid (Cells.new w2 76 #[.int .i64 a, .int .i64 b, .int .i64 c])
    have HB3 := Lib.hid (HB2.out.alloc HB2.out.size (.cells #[.int .i64 a, .int .i64 b, .int .i64 c] 76))
    have HX3 := Lib.hid (HX2.out.alloc (.cells #[.int .i64 a, .int .i64 b, .int .i64 c] 76))
    clear HB2 HX2 c0 c1 c2 c3
    generalize w2.alloc (.cells #[.int .i64 a, .int .i64 b, .int .i64 c] 76) = w3 at *
    generalize w2.heap.size = Bl at *
    go_wp2
    go_loopw [9] (fun x wr => ∃ i : Nat, i ≤ 3 ∧ x = .int .i64 (i : Nat) ∧ wr = w3 ∧ ∀ j : Nat, j < i → regBad r j (regV a b c j) = 0) (fun x _ => 3 - (intOf x).toNat)
    case atStart => exact ⟨0, by omega, rfl, rfl, fun j hj => by omega⟩
    case round =>
      obtain ⟨i, hi, rfl, hwr, hok⟩ := hrel
      rw [hwr]
      clear hwr
      have HOK := Lib.hid hok
      clear hok
      by_cases h3 : i < 3
      · have l0 : w3.cell? ⟨Bl, i, none⟩ = some (.int .i64 (regV a b c i)) := HL3.out.cell (by rcases i with _ | _ | _ | i <;> first | rfl | omega)
        have HST : Hid (regBad r i (regV a b c i) = 0 → ∀ j : Nat, j < i + 1 → regBad r j (regV a b c j) = 0) := Lib.hid fun h j hj => by
          by_cases e : j = i
          · rw [e]; exact h
          · exact HOK.out j (by omega)
        have HBAD := Lib.hid (HREG.out i h3 HOK.out)
        generalize regV a b c i = v at *
        have i0 : (0 : Int) ≤ (i : Int) := by omega
        have i1 : (i : Int) < 3 := by omega
        have hwi : wrap64 ((i : Int) + 1) = (i : Int) + 1 := by unfold wrap64; omega
        have HI3 := Lib.hid h3
        clear h3 hi
        by_cases hr : r ≤ (i : Int)
        · have hr' : ¬ (i : Int) < r := by omega
          by_cases hv : v = 0
          · have HZ := Lib.hid (HST.out (by unfold regBad; rw [if_neg (by simp [hv]), if_neg (by omega)]))
            clear HBAD HST
            subst hv
            go_wp2
            refine ⟨⟨i + 1, HI3.out, by go_num, by trivial, HZ.out⟩, by have := HI3.out; simp [intOf]; omega⟩
          · have e1 : regBad r i v = 54 := by unfold regBad; exact if_pos ⟨hr, hv⟩
            have e2 := HBAD.out (by rw [e1]; decide)
            rw [e1] at e2
            have HE := Lib.hid e2
            have hv' : (v == 0) = false := by rw [beq_eq_false_iff_ne]; exact hv
            have hv2 : (v != 0) = true := by simp [bne, hv']
            clear e1 e2 HBAD HST hv
            go_wp2
            go_ret
            exact ⟨by first | (rw [HE.out]; done) | (rw [HE.out]; rfl), HB3.out⟩
        · have hr' : (i : Int) < r := by omega
          by_cases hv : v < 0
          · have e1 : regBad r i v = 52 := by unfold regBad; rw [if_neg (by omega)]; exact if_pos (.inl hv)
            have e2 := HBAD.out (by rw [e1]; decide)
            rw [e1] at e2
            have HE := Lib.hid e2
            clear e1 e2 HBAD HST
            go_wp2
            go_ret
            exact ⟨by first | (rw [HE.out]; done) | (rw [HE.out]; rfl), HB3.out⟩
          by_cases hv7 : 7 < v
          · have e1 : regBad r i v = 52 := by unfold regBad; rw [if_neg (by omega)]; exact if_pos (.inr (by omega))
            have e2 := HBAD.out (by rw [e1]; decide)
            rw [e1] at e2
            have HE := Lib.hid e2
            clear e1 e2 HBAD HST
            go_wp2
            go_ret
            exact ⟨by first | (rw [HE.out]; done) | (rw [HE.out]; rfl), HB3.out⟩
          · have HZ := Lib.hid (HST.out (by unfold regBad; rw [if_neg (by omega), if_neg (by omega)]))
            clear HBAD HST
            go_wp2
            refine ⟨⟨i + 1, HI3.out, by go_num, by trivial, HZ.out⟩, by have := HI3.out; simp [intOf]; omega⟩
      · obtain rfl : i = 3 := by omega
        clear h3 hi
        have HT := Lib.hid (HTAIL.out HOK.out)
        clear HTAIL HREG HOK
        have c4 : w3.cell? ⟨w.heap.size, 4, none⟩ = some (.int .i64 n) := HX3.out.cell (j := 4) rfl
        have c5 : w3.cell? ⟨w.heap.size, 5, none⟩ = some (.int .u64 (k : Nat)) := HX3.out.cell (j := 5) rfl
        by_cases hN : bn = false ∧ n ≠ 0
        · obtain ⟨rfl, hn⟩ := hN
          have e1 : iw = 54 := by rw [HT.out]; exact if_pos ⟨rfl, hn⟩
          have HE := Lib.hid e1
          have hn' : (n == 0) = false := by rw [beq_eq_false_iff_ne]; exact hn
          have hn2 : (n != 0) = true := by simp [bne, hn']
          clear e1 hn HT
          go_wp2
          go_ret
          exact ⟨by first | (rw [HE.out]; done) | (rw [HE.out]; rfl), HB3.out⟩
        by_cases hJ : n < 0 ∨ (many : Int) < n
        · have hb : bn = true := by
            cases bn with
            | true => rfl
            | false => exact absurd ⟨rfl, by omega⟩ hN
          subst hb
          have e1 : iw = 53 := by rw [HT.out, if_neg (by simp)]; exact if_pos hJ
          have HE := Lib.hid e1
          clear e1 HT hN
          by_cases hn : n < 0
          · clear hJ
            go_wp2
            go_ret
            exact ⟨by first | (rw [HE.out]; done) | (rw [HE.out]; rfl), HB3.out⟩
          · have hn2 : (many : Int) < n := by omega
            clear hJ
            go_wp2
            go_ret
            exact ⟨by first | (rw [HE.out]; done) | (rw [HE.out]; rfl), HB3.out⟩
        have hE : iw = if (bk = false ∧ k ≠ 0) ∨ fcan k ≠ k then 54 else 0 := by rw [HT.out, if_neg hN, if_neg hJ]
        have HE := Lib.hid hE
        have kc := fun m => rcanon_told hk (w3.drewN m)
        have j1 : ¬ n < 0 := by omega
        have j2 : ¬ (many : Int) < n := by omega
        have hway : bn = true ∨ bn = false ∧ n = 0 := by
          cases bn with
          | true => exact .inl rfl
          | false => exact .inr ⟨rfl, by by_cases h : n = 0; exact h; exact absurd ⟨rfl, h⟩ hN⟩
        clear hE HT hJ hN
        have hcs : (bk = false ∧ k ≠ 0) ∨ (bk = false ∧ k = 0) ∨ (bk = true ∧ fcan k ≠ k) ∨ (bk = true ∧ fcan k = k) := by
          cases bk with
          | false =>
            by_cases h : k = 0
            · exact .inr (.inl ⟨rfl, h⟩)
            · exact .inl ⟨rfl, h⟩
          | true =>
            by_cases h2 : fcan k = k
            · exact .inr (.inr (.inr ⟨rfl, h2⟩))
            · exact .inr (.inr (.inl ⟨rfl, h2⟩))
        have HKC := Lib.hid kc
        clear kc
        rcases hway with rfl | ⟨rfl, rfl⟩
        all_goals
          rcases hcs with ⟨rfl, h⟩ | ⟨rfl, rfl⟩ | ⟨rfl, h⟩ | ⟨rfl, h⟩
          · have HF := Lib.hid (HE.out.trans (if_pos (.inl ⟨rfl, h⟩)))
            have hk0 : ((k : Int) == 0) = false := by rw [beq_eq_false_iff_ne]; omega
            have hk1 : ((k : Int) != 0) = true := by simp [bne, hk0]
            clear h
            go_upto_region 16 with fail
            go_quiet (fail)
            go_wp2
            go_ret
            exact ⟨by first | (rw [HF.out]; done) | (rw [HF.out]; rfl), below_drewN HB3.out _⟩
          · have HF := Lib.hid (HE.out.trans (if_neg (by simp [fcan_zero])))
            go_upto_region 16 with fail
            go_quiet (fail)
            go_wp2
            go_ret
            exact ⟨by first | (rw [HF.out]; done) | (rw [HF.out]; rfl), below_drewN HB3.out _⟩
          · have HF := Lib.hid (HE.out.trans (if_pos (.inr h)))
            have hk0 : (((fcan k : Nat) : Int) == (k : Int)) = false := by rw [beq_eq_false_iff_ne]; omega
            have hk1 : (((fcan k : Nat) : Int) != (k : Int)) = true := by simp [bne, hk0]
            have kc := HKC.out
            clear h
            generalize fcan k = fk at *
            go_upto_region 16 with fail
            go_quiet ((go_at_call 60; exact Calls.quiet_of_same (kc _)))
            go_wp2
            go_ret
            exact ⟨by first | (rw [HF.out]; done) | (rw [HF.out]; rfl), below_drewN HB3.out _⟩
          · have HF := Lib.hid (HE.out.trans (if_neg (by simp [h])))
            have kc := HKC.out
            rw [h] at kc
            clear h
            have hk1 : ((k : Int) != (k : Int)) = false := by simp
            go_upto_region 16 with fail
            go_quiet ((go_at_call 60; exact Calls.quiet_of_same (kc _)))
            go_wp2
            go_ret
            exact ⟨by first | (rw [HF.out]; done) | (rw [HF.out]; rfl), below_drewN HB3.out _⟩

set_option maxHeartbeats 4000000 in
theorem rcheck_any (fuel : Int) (A : Option Addr) (l : List Ins) (cap : Nat) (w : World) (hC : CodeIn w w.heap.size A l) :
    Calls Tryz.prog 13 #[.agg #[.int .i64 fuel, .slice A l.length cap]] w fun e w' => e = .returned (.tuple #[.int .i64 (progCheck fuel l).1, .int .i64 ((progCheck fuel l).2 : Nat)]) ∧ Below w.heap.size w w' := by
  by_cases h1 : fuel < 1 ∨ 1024 < fuel
  · have e0 : progCheck fuel l = (56, 0) := by unfold progCheck; exact if_pos h1
    rw [e0]
    clear e0 hC
    generalize l.length = len
    by_cases h2 : fuel < 1
    · clear h1
      go_enter Tryz.func13, Tryz.ntmps13
      go_wp2
      go_ret2
      exact ⟨rfl, (Below.refl _ _).alloc (Nat.le_refl _) _⟩
    · have h3 : 1024 < fuel := by omega
      clear h1
      go_enter Tryz.func13, Tryz.ntmps13
      go_wp2
      go_ret2
      exact ⟨rfl, (Below.refl _ _).alloc (Nat.le_refl _) _⟩
  have g1 : ¬ fuel < 1 := by omega
  have g2 : ¬ 1024 < fuel := by omega
  by_cases h2 : l.length < 1 ∨ 64 < l.length
  · have e0 : progCheck fuel l = (50, 0) := by unfold progCheck; rw [if_neg h1]; exact if_pos h2
    rw [e0]
    clear e0 hC h1
    generalize l.length = len at *
    by_cases h2 : (len : Int) < 1
    · have h3 : len = 0 := by omega
      subst h3
      go_enter Tryz.func13, Tryz.ntmps13
      go_wp2
      go_ret2
      exact ⟨rfl, (Below.refl _ _).alloc (Nat.le_refl _) _⟩
    · have h3 : (64 : Int) < len := by omega
      go_enter Tryz.func13, Tryz.ntmps13
      go_wp2
      go_ret2
      exact ⟨rfl, (Below.refl _ _).alloc (Nat.le_refl _) _⟩
  have hE0 : progCheck fuel l = codeWrong l.length l 0 := by unfold progCheck; rw [if_neg h1, if_neg h2]
  have g3 : ¬ (l.length : Int) < 1 := by omega
  have g4 : ¬ (64 : Int) < l.length := by omega
  have hm : l.length ≤ 64 := by omega
  have HE0 := Lib.hid hE0
  have HX := Lib.hid (Cells.new w 24 #[.int .i64 fuel, .slice A l.length cap])
  have HB := Lib.hid ((Below.refl w.heap.size w).alloc (Nat.le_refl _) (.cells #[.int .i64 fuel, .slice A l.length cap] 24))
  have HCC := Lib.hid hC
  clear hE0 h1 h2 hC
  have HL : Hid (∃ len, len = l.length) := Lib.hid ⟨_, rfl⟩
  generalize hlen : l.length = len at *
  have HLEN := Lib.hid hlen
  clear hlen HL
  go_enter Tryz.func13, Tryz.ntmps13
  go_wp2
  generalize w.alloc (.cells #[.int .i64 fuel, .slice A len cap] 24) = w1 at *
  go_loopw [4] (fun x wr => ∃ g : Nat, g ≤ len ∧ x = .int .i64 (g : Int) ∧ Cells wr w.heap.size 24 #[.int .i64 fuel, .slice A len cap] ∧ Below w.heap.size w wr ∧ ∀ k x, k < g → l[k]? = some x → insWrong x len = 0) (fun x _ => len - (intOf x).toNat)
  case atStart => exact ⟨0, Nat.zero_le _, rfl, HX.out, HB.out, fun k x hk _ => by omega⟩
  case round =>
    obtain ⟨g, hg, rfl, hX, hB, hok⟩ := hrel
    have HX2 := Lib.hid hX
    have HB2 := Lib.hid hB
    have HOK := Lib.hid hok
    have p1 : wr.cell? ⟨w.heap.size, 1, none⟩ = some (.slice A len cap) := hX.cell (j := 1) rfl
    have hsz := hX.lt
    clear hX hB hok
    by_cases hlt : g < len
    · obtain ⟨x, hx⟩ : ∃ x, l[g]? = some x := ⟨l[g]'(by rw [HLEN.out]; exact hlt), List.getElem?_eq_getElem _⟩
      obtain ⟨b, off, rfl, hb, hc⟩ := HCC.out (by rw [HLEN.out]; omega)
      have hcx := hc g x hx
      obtain ⟨⟨c0, c1, c2, c3, c4, c5⟩, hk⟩ := And.intro (hcx.1.keep HB2.out hb) hcx.2
      have HCX := Lib.hid hcx
      have HXG := Lib.hid hx
      clear hc hcx hx
      have i0 : (0 : Int) ≤ g := by omega
      have i1 : (g : Int) < len := by omega
      have kw := fun w => rwrong_any x.op x.a x.b x.c x.n x.k len w hk hm
      have heta : (⟨x.op, x.a, x.b, x.c, x.n, x.k⟩ : Ins) = x := rfl
      rw [heta] at kw
      clear heta
      by_cases hz : insWrong x len = 0
      · have HN : Hid (∀ k y, k < g + 1 → l[k]? = some y → insWrong y len = 0) := Lib.hid fun k y hk hy => by
          rcases Nat.lt_or_ge k g with h | h
          · exact HOK.out k y h hy
          · obtain rfl : k = g := by omega
            rw [HXG.out] at hy
            injection hy with hy
            rw [← hy]
            exact hz
        rw [hz] at kw
        clear hz HOK
        have q1 : ∀ y : BW wr, y.val.cell? ⟨w.heap.size, 1, none⟩ = some (.slice (some ⟨b, off, none⟩) len cap) := fun y => y.cell p1
        have r0 : ∀ y : BW wr, y.val.cell? ⟨b, off + g * 6, none⟩ = some (.int .i64 x.op) := fun y => y.cell c0
        have r1 : ∀ y : BW wr, y.val.cell? ⟨b, off + g * 6 + 1, none⟩ = some (.int .i64 x.a) := fun y => y.cell c1
        have r2 : ∀ y : BW wr, y.val.cell? ⟨b, off + g * 6 + 2, none⟩ = some (.int .i64 x.b) := fun y => y.cell c2
        have r3 : ∀ y : BW wr, y.val.cell? ⟨b, off + g * 6 + 3, none⟩ = some (.int .i64 x.c) := fun y => y.cell c3
        have r4 : ∀ y : BW wr, y.val.cell? ⟨b, off + g * 6 + 4, none⟩ = some (.int .i64 x.n) := fun y => y.cell c4
        have r5 : ∀ y : BW wr, y.val.cell? ⟨b, off + g * 6 + 5, none⟩ = some (.int .u64 x.k) := fun y => y.cell c5
        clear c0 c1 c2 c3 c4 c5
        go_upto_region 8 with fail
        refine wp_region_bw (w := wr) (by kernel_rfl) (by kernel_rfl) ?_
        repeat (refine wpQuiet_step (fun K hK => ?_); go_simp; first | (refine hK _ ?_; clear hK K) | (apply Exists.intro; refine ⟨fun _ => ?_, hK _ ?_⟩; (go_at_call 26; exact Calls.quiet_bw (kw _)); clear hK K))
        refine wpQuiet_nil ?_
        intro yq
        have HBY := Lib.hid yq.below
        go_wp2
        refine ⟨⟨g + 1, by omega, by go_num, ?_, ?_, HN.out⟩, by simp [intOf]; omega⟩
        · exact Cells.keep HX2.out HBY.out
        · exact grow_to HB2.out HBY.out
      · have e1 : progCheck fuel l = (insWrong x len, g) := by
          rw [HE0.out, codeWrong_at l g 0 (fun k y hk hy => HOK.out k y hk hy)]
          have hd : l.drop g = x :: l.drop (g + 1) := by
            have h := HXG.out
            obtain ⟨h1, h2⟩ := List.getElem?_eq_some_iff.1 h
            rw [List.drop_eq_getElem_cons h1, h2]
          rw [hd, codeWrong, if_pos hz, HLEN.out]
          congr 1
          omega
        have HE1 := Lib.hid e1
        have t1 : (insWrong x len == 0) = false := by rw [beq_eq_false_iff_ne]; exact hz
        have HI : Hid (insWrong x len = insWrong x len) := Lib.hid rfl
        clear e1 hz HOK HE0
        generalize insWrong x len = iw at *
        have q1 : ∀ y : BW wr, y.val.cell? ⟨w.heap.size, 1, none⟩ = some (.slice (some ⟨b, off, none⟩) len cap) := fun y => y.cell p1
        have r0 : ∀ y : BW wr, y.val.cell? ⟨b, off + g * 6, none⟩ = some (.int .i64 x.op) := fun y => y.cell c0
        have r1 : ∀ y : BW wr, y.val.cell? ⟨b, off + g * 6 + 1, none⟩ = some (.int .i64 x.a) := fun y => y.cell c1
        have r2 : ∀ y : BW wr, y.val.cell? ⟨b, off + g * 6 + 2, none⟩ = some (.int .i64 x.b) := fun y => y.cell c2
        have r3 : ∀ y : BW wr, y.val.cell? ⟨b, off + g * 6 + 3, none⟩ = some (.int .i64 x.c) := fun y => y.cell c3
        have r4 : ∀ y : BW wr, y.val.cell? ⟨b, off + g * 6 + 4, none⟩ = some (.int .i64 x.n) := fun y => y.cell c4
        have r5 : ∀ y : BW wr, y.val.cell? ⟨b, off + g * 6 + 5, none⟩ = some (.int .u64 x.k) := fun y => y.cell c5
        clear c0 c1 c2 c3 c4 c5
        go_upto_region 8 with fail
        refine wp_region_bw (w := wr) (by kernel_rfl) (by kernel_rfl) ?_
        repeat (refine wpQuiet_step (fun K hK => ?_); go_simp; first | (refine hK _ ?_; clear hK K) | (apply Exists.intro; refine ⟨fun _ => ?_, hK _ ?_⟩; (go_at_call 26; exact Calls.quiet_bw (kw _)); clear hK K))
        refine wpQuiet_nil ?_
        intro yq
        have HBY := Lib.hid yq.below
        go_wp2
        go_ret2
        exact ⟨by first | (rw [HE1.out]; done) | (rw [HE1.out]; rfl), grow_to HB2.out HBY.out⟩
    · obtain rfl : g = len := by omega
      have i1 : ¬ (g : Int) < g := by omega
      have e1 : progCheck fuel l = (0, 0) := by
        rw [HE0.out, codeWrong_at l g 0 (fun k y hk hy => HOK.out k y hk hy), List.drop_of_length_le (by rw [HLEN.out]; exact Nat.le_refl _)]
        rfl
      have HE1 := Lib.hid e1
      clear e1 HE0 HOK
      go_wp2
      go_ret2
      exact ⟨by first | (rw [HE1.out]; done) | (rw [HE1.out]; rfl), HB2.out⟩

end Go.Proofs.YtiidkgdlngcpgaaGreatDoor
