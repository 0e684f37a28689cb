/- wire's field Result: its closures. -/
import Derived.Test.YtpnfdmglhonkmaaFieldLay
import Derived.Test.YtpnfdmglhonkmaaCanon
set_option maxRecDepth 100000
namespace Go.Proofs.Ytpnfdmglhonkmaa
open Go.RowKit

theorem canon_same (a : Int) (w : World) (h0 : 0 ≤ a) (h1 : a ≤ 18446744073709551615) :
    Calls Try.prog 68 #[.int .u64 a] w fun e w' => e = .returned (.int .u64 (canon a)) ∧ w' = w := (canon_any a w h0 h1).mono fun _ _ h => ⟨h.1, h.2.symm⟩

set_option maxHeartbeats 4000000 in
theorem resultMay (g : Nat) (m : Mg) (w : World) (hm : Ms w g m) (hb : 0 ≤ m.bits ∧ m.bits ≤ 18446744073709551615) :
    Calls Try.prog 67 #[.pointer (some ⟨g, 0, none⟩)] w fun e w' => e = .returned (.bool (Fd.result.may m)) ∧ Below w.heap.size w w' := by
  have d7 : w.cell? ⟨g, 7, none⟩ = some (.int .i64 m.code) := hm.cell rfl
  have d8 : w.cell? ⟨g, 8, none⟩ = some (.int .u64 m.bits) := hm.cell rfl
  have hmay : Fd.result.may m = ((m.code == 0) && (canon m.bits == m.bits) || decide (0 < m.code) && decide (m.code ≤ 7) && (m.bits == 0)) := rfl
  generalize Fd.result.may m = R at hmay ⊢
  generalize m.code = x at d7 hmay
  generalize m.bits = y at d8 hmay hb
  have HM := Lib.hid hmay
  clear hmay hm
  obtain ⟨W, hW⟩ : ∃ W, W = w.alloc (.cells #[.int .i64 x, .int .u64 y] 43) := ⟨_, rfl⟩
  have e0 : W.cell? ⟨w.heap.size, 0, none⟩ = some (.int .i64 x) := by rw [hW]; exact (Cells.new w _ _).cell rfl
  have e1 : W.cell? ⟨w.heap.size, 1, none⟩ = some (.int .u64 y) := by rw [hW]; exact (Cells.new w _ _).cell rfl
  have hBW : Below w.heap.size w W := by rw [hW]; exact (Below.refl _ w).alloc (Nat.le_refl _) _
  have HW := Lib.hid hW
  clear hW
  by_cases a1 : x = 0
  · have t1 : (x == 0) = true := by rw [beq_iff_eq]; exact a1
    have t3 : decide (0 < x) = false := decide_eq_false (by omega)
    by_cases a2 : canon y = y
    · have t2 : (canon y == y) = true := by rw [beq_iff_eq]; exact a2
      have A1 := Lib.hid a1
      have A2 := Lib.hid a2
      clear a1 a2
      have hR : R = true := by rw [HM.out, t1, t2]; rfl
      have HR := Lib.hid hR
      clear hR
      go_enter Try.func67, Try.ntmps67
      go_wp2_with fail
      rw [← HW.out]
      go_quiet ((go_at_call 68; exact Calls.quiet_of_same (canon_same _ _ hb.1 hb.2)))
      go_wp2
      go_ret
      exact ⟨by rw [HR.out]; rfl, below_drewN hBW _⟩
    · have t2 : (canon y == y) = false := by rw [beq_eq_false_iff_ne]; exact a2
      have A1 := Lib.hid a1
      clear a1 a2
      have hR : R = false := by rw [HM.out, t1, t2, t3]; rfl
      have HR := Lib.hid hR
      clear hR
      go_enter Try.func67, Try.ntmps67
      go_wp2_with fail
      rw [← HW.out]
      go_quiet ((go_at_call 68; exact Calls.quiet_of_same (canon_same _ _ hb.1 hb.2)))
      go_wp2
      go_ret
      exact ⟨by rw [HR.out]; rfl, below_drewN hBW _⟩
  · have t1 : (x == 0) = false := by rw [beq_eq_false_iff_ne]; exact a1
    by_cases a3 : 0 < x
    · have t3 : decide (0 < x) = true := decide_eq_true a3
      by_cases a4 : x ≤ 7
      · have t4 : decide (x ≤ 7) = true := decide_eq_true a4
        by_cases a5 : y = 0
        · have t5 : (y == 0) = true := by rw [beq_iff_eq]; exact a5
          have A5 := Lib.hid a5
          clear a5
          have hR : R = true := by rw [HM.out, t1, t3, t4, t5]; rfl
          have HR := Lib.hid hR
          clear hR
          go_enter Try.func67, Try.ntmps67
          go_wp2_with fail
          rw [← HW.out]
          go_quiet ((go_at_call 68; exact Calls.quiet_of_same (canon_same _ _ hb.1 hb.2)))
          go_wp2
          go_ret
          exact ⟨by rw [HR.out]; rfl, below_drewN hBW _⟩
        · have t5 : (y == 0) = false := by rw [beq_eq_false_iff_ne]; exact a5
          have hR : R = false := by rw [HM.out, t1, t3, t4, t5]; rfl
          have HR := Lib.hid hR
          clear hR
          go_enter Try.func67, Try.ntmps67
          go_wp2_with fail
          rw [← HW.out]
          go_quiet ((go_at_call 68; exact Calls.quiet_of_same (canon_same _ _ hb.1 hb.2)))
          go_wp2
          go_ret
          exact ⟨by rw [HR.out]; rfl, below_drewN hBW _⟩
      · have t4 : decide (x ≤ 7) = false := decide_eq_false a4
        have hR : R = false := by rw [HM.out, t1, t3, t4]; rfl
        have HR := Lib.hid hR
        clear hR
        go_enter Try.func67, Try.ntmps67
        go_wp2_with fail
        rw [← HW.out]
        go_quiet ((go_at_call 68; exact Calls.quiet_of_same (canon_same _ _ hb.1 hb.2)))
        go_wp2
        go_ret
        exact ⟨by rw [HR.out]; rfl, below_drewN hBW _⟩
    · have t3 : decide (0 < x) = false := decide_eq_false a3
      have hR : R = false := by rw [HM.out, t1, t3]; rfl
      have HR := Lib.hid hR
      clear hR
      go_enter Try.func67, Try.ntmps67
      go_wp2_with fail
      rw [← HW.out]
      go_quiet ((go_at_call 68; exact Calls.quiet_of_same (canon_same _ _ hb.1 hb.2)))
      go_wp2
      go_ret
      exact ⟨by rw [HR.out]; rfl, below_drewN hBW _⟩

set_option maxHeartbeats 4000000 in
theorem resultLay (g : Nat) (m : Mg) (w : World) (hm : Ms w g m) (h0 : 0 ≤ m.code) (h7 : m.code ≤ 7) (hb : 0 ≤ m.bits ∧ m.bits ≤ 18446744073709551615) :
    Calls Try.prog 69 #[.pointer (some ⟨g, 0, none⟩)] w fun e w' => e = .returned (.string (str (Fd.result.lay m))) ∧ Below w.heap.size w w' := by
  have d7 : w.cell? ⟨g, 7, none⟩ = some (.int .i64 m.code) := hm.cell rfl
  have d8 : w.cell? ⟨g, 8, none⟩ = some (.int .u64 m.bits) := hm.cell rfl
  have hlt := Cells.lt hm
  have hlay : str (Fd.result.lay m) = str (vb m.code.toNat) ++ str (bb m.bits.toNat) := by
    unfold Fd.lay
    apply ByteArray.ext
    apply Array.toList_inj.1
    simp [str]
  generalize str (Fd.result.lay m) = R at hlay ⊢
  obtain ⟨n, hn⟩ := Int.eq_ofNat_of_zero_le h0
  obtain ⟨y, hy⟩ := Int.eq_ofNat_of_zero_le hb.1
  rw [hn] at d7 hlay h7
  rw [hy] at d8 hlay hb
  have HL := Lib.hid hlay
  have HU := Lib.hid (u64_of (x := (n : Int)) (by omega) (by omega))
  clear hlay hn hy hm
  have s1 : (str (vb n)).size ≤ 10 := by rw [str_size]; exact vb_len10 _ (by omega)
  have s2 : (str (bb y)).size ≤ 8 := by rw [str_size, bb_len]; omega
  have hx1 : ¬ 9223372036854775807 < (str (vb n)).size + (str (bb y)).size := by omega
  have e7 : w.drew.cell? ⟨g, 7, none⟩ = some (.int .i64 (n : Int)) := d7
  have e8 : w.drew.cell? ⟨g, 8, none⟩ = some (.int .u64 (y : Int)) := d8
  have HK := Lib.hid fun (wx wy : World) (hw : Below wx.heap.size wx wy) (h : wx.cell? ⟨g, 7, none⟩ = some (.int .i64 (n : Int)) ∧ wx.cell? ⟨g, 8, none⟩ = some (.int .u64 (y : Int))) => (show wy.cell? ⟨g, 7, none⟩ = some (.int .i64 (n : Int)) ∧ wy.cell? ⟨g, 8, none⟩ = some (.int .u64 (y : Int)) from ⟨(hw.cell (World.block_lt_of_cell? _ _ h.1)).trans h.1, (hw.cell (World.block_lt_of_cell? _ _ h.2)).trans h.2⟩)
  go_enter Try.func69, Try.ntmps69
  go_wp2_with fail
  go_region_held3 (fun w' => w'.cell? ⟨g, 7, none⟩ = some (.int .i64 (n : Int)) ∧ w'.cell? ⟨g, 8, none⟩ = some (.int .u64 (y : Int))) ((first | exact ⟨e7, e8⟩ | assumption | exact HK.out _ _ (by assumption) (by assumption)))
    (first | (go_at_call 26; (try rw [HU.out]); refine (Num_any n _ (by omega)).mono ?_; rintro x wa ⟨rfl, hba⟩) | (go_at_call 70; refine (Bits_any y _ (by omega)).mono ?_; rintro x wb ⟨rfl, hbb⟩))
  all_goals
    go_wp2
    go_ret
    exact ⟨by rw [HL.out]; rfl, by first | exact ((Below.refl _ w).drew).trans (hba.trans (hbb.mono hba.size)) | exact ((Below.refl _ w).drew).trans (hbb.trans (hba.mono hbb.size))⟩

set_option maxHeartbeats 4000000 in
theorem resultRead (g gr : Nat) (b : ByteArray) (m : Mg) (p : Nat) (e : Int) (w : World) (hm : Ms w g m) (hR : Rdr w gr b p e) (hp : p ≤ b.size) (hb : b.size < 4294967296) :
    Calls Try.prog 71 #[.pointer (some ⟨g, 0, none⟩), .pointer (some ⟨gr, 0, none⟩)] w (FieldRead g gr b (Fd.result.read b (m, p, e)) w) := by
  have hne : g ≠ gr := Cells.ne hm hR (by decide)
  have hc := rNum gr b p e 7 w hR hp hb (by omega)
  have hbd := num_bd (l := b.data.toList.drop p) (most := 7) (p := p) (e := e) (over := 21)
  have hle := rdrStep_le (zero := (0 : Int)) (e := e) hp (fun v k h => num_le (most := 7) (over := 21) hp h)
  have hread : Fd.result.read b (m, p, e) = ((fun (r : Int × Nat × Int) => (fun (q : Int × Nat × Int) => ({ m with code := r.1, bits := q.1 }, q.2)) (rdrStep 0 (bitsR (b.data.toList.drop r.2.1)) r.2.1 r.2.2)) (rdrStep 0 (upR (numR (b.data.toList.drop p) 7 21)) p e)) := rfl
  generalize rdrStep 0 (upR (numR (b.data.toList.drop p) 7 21)) p e = R at hc hbd hle hread
  obtain ⟨v, q, f⟩ := R
  have HV := Lib.hid (i64_of hbd.1 (by have := hbd.2; simp only at this ⊢; omega))
  have HC := Lib.hid hc
  clear hc
  have hc2 := fun wx (hx : Rdr wx gr b q f) => rBits gr b q f wx hx hle hb
  simp only at hread
  generalize rdrStep 0 (bitsR (b.data.toList.drop q)) q f = R2 at hc2 hread
  obtain ⟨y, q2, f2⟩ := R2
  have HC2 := Lib.hid hc2
  have HD := Lib.hid hread
  clear hc2 hread
  go_enter Try.func71, Try.ntmps71
  go_wp2_with fail
  refine HC.out.mono ?_
  rintro x w1 ⟨rfl, hR1, hg1⟩
  go_wp2_with fail
  refine (HC2.out _ hR1).mono ?_
  rintro x w2 ⟨rfl, hR2, hg2⟩
  have hg := only_trans hg1 hg2
  have hm2 : Ms w2 g m := hm.grown hg (by intro he; injection he with he; exact hne he)
  obtain ⟨k0, k1, k2, k3, k4, k5, k6, k7, k8, k9, k10⟩ := hm2.all
  have kf := fun j => hm2.fz j
  go_wp2
  go_end0
  try rw [HV.out]
  rw [HD.out]
  have h := (Cells.set hm2 7 (.int .i64 v)).set 8 (.int .u64 y)
  refine ⟨rfl, by simpa [Ms] using h, (hR2.far (fun he => hne he.symm) _).far (fun he => hne he.symm) _, ?_⟩
  refine Turns.set ?_ (.inl (by simp)) _
  exact ((Turns.of_only hg).mono (fun z hz => .inl (by simp at hz; simp [hz]))).set (.inl (by simp)) _

end Go.Proofs.Ytpnfdmglhonkmaa
