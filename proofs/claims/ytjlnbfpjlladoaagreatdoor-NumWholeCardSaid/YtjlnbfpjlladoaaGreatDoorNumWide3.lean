/- The document's product of two numbers of 64 bits (contract). -/
import Derived.Test.YtjlnbfpjlladoaaGreatDoorNumRound
import Derived.Deep.DeepCutAuto
import Derived.Deep.RegionWith
set_option maxRecDepth 100000
namespace Go.Proofs.YtjlnbfpjlladoaaGreatDoor
open Go.RowKit

theorem wz_is : wc 0 = #[.int .u64 0, .int .u64 0] := rfl
theorem mul_wide {a b k : Nat} (ha : a < 18446744073709551616) (hb : b < 18446744073709551616) : a * (b % 2 ^ k) < 340282366920938463463374607431768211456 ∧ a * b < 340282366920938463463374607431768211456 := by
  have h1 : a * b < 340282366920938463463374607431768211456 := Nat.lt_of_le_of_lt (Nat.mul_le_mul (Nat.le_of_lt_succ (show a < 18446744073709551615 + 1 by omega)) (Nat.le_of_lt_succ (show b < 18446744073709551615 + 1 by omega))) (by decide)
  exact ⟨Nat.lt_of_le_of_lt (Nat.mul_le_mul_left _ (Nat.mod_le _ _)) h1, h1⟩
set_option maxHeartbeats 8000000 in
set_option maxRecDepth 100000 in
theorem times_any {a b : Nat} (ha : a < 18446744073709551616) (hb : b < 18446744073709551616) (W : World) :
    Calls Tryz.prog 47 #[.int .u64 ((a : Nat) : Int), .int .u64 ((b : Nat) : Int)] W fun e w' => e = .returned (wv (a * b)) ∧ Below W.heap.size W w' := by
  obtain ⟨p, hp⟩ : ∃ p, p = a * b := ⟨_, rfl⟩
  rw [← hp, wv_is]
  have HP := Lib.hid hp
  clear hp
  go_enter Tryz.func47, Tryz.ntmps47
  go_wp2
  go_loopw [6] (fun v wr => ∃ i : Nat, v = .int .i64 ((i : Nat) : Int) ∧ i ≤ 64 ∧ WAt wr W.heap.size 0 ∧ WAt wr (W.heap.size + 1) (a * (b % 2 ^ i)) ∧ Below W.heap.size W wr) (fun v _ => 65 - (intOf v).toNat)
  case atStart =>
    refine ⟨0, rfl, by omega, (Cells.new W _ _).alloc _, ?_, ((Below.refl _ _).alloc (Nat.le_refl _) _).alloc (by rw [World.size_alloc]; omega) _⟩
    rw [Nat.pow_zero, Nat.mod_one, Nat.mul_zero]
    exact Cells.newAt _ _ _ _ (by rw [World.size_alloc])
  case round =>
    obtain ⟨i, rfl, hi, hR, hO, hB⟩ := hrel
    have hsz := hB.size
    have o0 := WAt.c0 hO
    have o1 := WAt.c1 hO
    have hlt := Cells.lt hO
    have HB := Lib.hid hB
    have HR := Lib.hid hR
    have HO := Lib.hid hO
    have HBIG := Lib.hid (@mul_wide a b i ha hb)
    by_cases c : i < 64
    · have hw1 : IntKind.i64.wrap (((i : Nat) : Int) + 1) = ((i : Nat) : Int) + 1 := by
        rw [IntKind.wrap_i64]
        omega
      have hbit : bits .and .u64 (((b : Nat) : Int) / 2 ^ i) 1 = ((b / 2 ^ i % 2 : Nat) : Int) := by
        rw [shr_fact]
        have h : bits .and .u64 ((b / 2 ^ i : Nat) : Int) ((1 : Nat) : Int) = ((b / 2 ^ i &&& 1 : Nat) : Int) := u64_and_nat (b / 2 ^ i) 1 (Nat.lt_of_le_of_lt (Nat.div_le_self _ _) hb) (by decide)
        rw [Nat.and_one_is_mod] at h
        exact h
      have hstep := times_step (a := a) (b := b) (i := i)
      clear hB hR hO
      by_cases d : b / 2 ^ i % 2 = 1
      · rw [d] at hbit
        rw [if_pos d] at hstep
        have hlow : b % 2 ^ i < 2 ^ i := Nat.mod_lt _ (Nat.pow_pos (by decide))
        have hz : a * 2 ^ i < 340282366920938463463374607431768211456 := Nat.lt_of_le_of_lt (Nat.mul_le_mul (show a ≤ 18446744073709551615 by omega) (Nat.pow_le_pow_right (n := 2) (by decide) (show i ≤ 63 by omega))) (by decide)
        have hy := (@mul_wide a b (i + 1) ha hb).1
        have kl := fun x => wleft_any (n := a) (k := i) (by omega) hz x
        have kp := fun x => wplus_any (n := a * (b % 2 ^ i)) (m := a * 2 ^ i) (by rw [← hstep]; exact hy) x
        rw [← hstep] at kp
        obtain ⟨x, hxx⟩ : ∃ x, x = a * (b % 2 ^ i) := ⟨_, rfl⟩
        obtain ⟨y, hyy⟩ : ∃ y, y = a * (b % 2 ^ (i + 1)) := ⟨_, rfl⟩
        obtain ⟨z, hzz⟩ : ∃ z, z = a * 2 ^ i := ⟨_, rfl⟩
        rw [← hxx] at o0 o1 kp HO
        rw [← hyy] at kp
        rw [← hzz] at kp kl
        rw [wv_is, show (((a : Nat) : Int) / 18446744073709551616) = 0 from by omega, show (((a : Nat) : Int) % 18446744073709551616) = ((a : Nat) : Int) from by omega] at kl
        have kl2 : ∀ x : World, Calls Tryz.prog 43 #[.agg #[.int .u64 0, .int .u64 ((a : Nat) : Int)], .int .i64 ((i : Nat) : Int)] x fun r x' => r = .returned (.agg #[.int .u64 (((z : Nat) : Int) / 18446744073709551616), .int .u64 (((z : Nat) : Int) % 18446744073709551616)]) ∧ Below x.heap.size x x' := kl
        have kp2 : ∀ X : World, Calls Tryz.prog 45 #[.agg #[.int .u64 (((x : Nat) : Int) / 18446744073709551616), .int .u64 (((x : Nat) : Int) % 18446744073709551616)], .agg #[.int .u64 (((z : Nat) : Int) / 18446744073709551616), .int .u64 (((z : Nat) : Int) % 18446744073709551616)]] X fun r X' => r = .returned (.agg #[.int .u64 (((y : Nat) : Int) / 18446744073709551616), .int .u64 (((y : Nat) : Int) % 18446744073709551616)]) ∧ Below X.heap.size X X' := kp
        have HY := Lib.hid hyy
        clear hlow hz hy kl kp hxx hyy hzz hstep d
        have HKP := Lib.hid fun (wx wz : World) (hw : Below wx.heap.size wx wz) (h : wx.cell? ⟨W.heap.size + 1, 0, none⟩ = some (.int .u64 (((x : Nat) : Int) / 18446744073709551616)) ∧ wx.cell? ⟨W.heap.size + 1, 1, none⟩ = some (.int .u64 (((x : Nat) : Int) % 18446744073709551616)) ∧ wx.cell? ⟨wr.heap.size, 0, none⟩ = some (.int .u64 0) ∧ wx.cell? ⟨wr.heap.size, 1, none⟩ = some (.int .u64 ((a : Nat) : Int))) => (show wz.cell? ⟨W.heap.size + 1, 0, none⟩ = some (.int .u64 (((x : Nat) : Int) / 18446744073709551616)) ∧ wz.cell? ⟨W.heap.size + 1, 1, none⟩ = some (.int .u64 (((x : Nat) : Int) % 18446744073709551616)) ∧ wz.cell? ⟨wr.heap.size, 0, none⟩ = some (.int .u64 0) ∧ wz.cell? ⟨wr.heap.size, 1, none⟩ = some (.int .u64 ((a : Nat) : Int)) from
          ⟨(hw.cell (World.block_lt_of_cell? _ _ h.1)).trans h.1, (hw.cell (World.block_lt_of_cell? _ _ h.2.1)).trans h.2.1, (hw.cell (World.block_lt_of_cell? _ _ h.2.2.1)).trans h.2.2.1, (hw.cell (World.block_lt_of_cell? _ _ h.2.2.2)).trans h.2.2.2⟩)
        go_upto_region 7 with fail
        have HOy := Lib.hid (Cells.alloc HO.out (.cells #[.int .u64 0, .int .u64 ((a : Nat) : Int)] 42))
        have HRy := Lib.hid (Cells.alloc HR.out (.cells #[.int .u64 0, .int .u64 ((a : Nat) : Int)] 42))
        have HBy := Lib.hid (bel_alloc HB.out (.cells #[.int .u64 0, .int .u64 ((a : Nat) : Int)] 42))
        have HVy := Lib.hid (Cells.new wr 42 #[.int .u64 0, .int .u64 ((a : Nat) : Int)])
        obtain ⟨wy, hwy⟩ : ∃ wy, wy = wr.alloc (.cells #[.int .u64 0, .int .u64 ((a : Nat) : Int)] 42) := ⟨_, rfl⟩
        rw [← hwy] at HOy HRy HBy HVy ⊢
        clear hwy o0 o1
        have e0 := WAt.c0 HOy.out
        have e1 := WAt.c1 HOy.out
        have g0 := Cells.cell HVy.out (j := 0) rfl
        have g1 := Cells.cell HVy.out (j := 1) rfl
        go_region_with ((first | (go_at_call 43; refine (kl2 _).mono ?_; rintro r w4 ⟨rfl, hb4⟩; have q4 := Cells.keep (Cells.drew HOy.out) hb4; have e0 := WAt.c0 q4; have e1 := WAt.c1 q4; have z0 := Cells.fz q4 0; have z1 := Cells.fz q4 1; have Q4 := Lib.hid q4; clear q4) | (go_at_call 45; refine (kp2 _).mono ?_; rintro r w5 ⟨rfl, hb5⟩; have q5 := Cells.keep Q4.out hb5; have z0 := Cells.fz q5 0; have z1 := Cells.fz q5 1; have y0 := WAt.c0 q5; have y1 := WAt.c1 q5; have Q5 := Lib.hid q5; clear q5)))
        all_goals (
          go_wp2
          go_roundw
          case rel => exact ⟨i + 1, by first | rfl | simp, by omega, Cells.far (Cells.far (Cells.keep (Cells.keep (Cells.drew HRy.out) hb4) hb5) (by simp) _) (by simp) _, by rw [← HY.out]; exact WAt.store Q5.out, bel_store (grow_to (grow_to (bel_drew HBy.out) hb4) hb5) (Nat.le_succ _) _ _⟩
          case measure => simp [intOf]; omega)
      · rw [show b / 2 ^ i % 2 = 0 by omega] at hbit
        rw [if_neg d] at hstep
        have HST := Lib.hid hstep
        clear hstep d
        go_wp2
        go_roundw
        case rel => exact ⟨i + 1, by first | rfl | simp, by omega, HR.out, by rw [HST.out]; exact HO.out, HB.out⟩
        case measure => simp [intOf]; omega
    · have h64 : b % 2 ^ i = b := Nat.mod_eq_of_lt (Nat.lt_of_lt_of_le hb (Nat.le_trans (by decide) (Nat.pow_le_pow_right (by decide) (show 64 ≤ i by omega))))
      rw [h64] at o0 o1
      have r0 := WAt.c0 hR
      have r1 := WAt.c1 hR
      have f0 := Cells.fz hR 0
      have f1 := Cells.fz hR 1
      rw [← HP.out] at o0 o1
      clear hB hR hO
      go_wp2
      have hZ := WAt.store (m := p) HR.out
      have hZB := bel_store HB.out (Nat.le_refl _) (.int .u64 (((p : Nat) : Int) / 18446744073709551616)) (.int .u64 (((p : Nat) : Int) % 18446744073709551616))
      obtain ⟨wz, hwz⟩ : ∃ wz, wz = (wr.setCell ⟨W.heap.size, 0, none⟩ (.int .u64 (((p : Nat) : Int) / 18446744073709551616))).setCell ⟨W.heap.size, 1, none⟩ (.int .u64 (((p : Nat) : Int) % 18446744073709551616)) := ⟨_, rfl⟩
      rw [← hwz] at hZ hZB ⊢
      have z0 := WAt.c0 hZ
      have z1 := WAt.c1 hZ
      clear hwz hZ o0 o1 r0 r1 f0 f1
      refine bodyPost_ret (v := .agg #[.int .u64 (((p : Nat) : Int) / 18446744073709551616), .int .u64 (((p : Nat) : Int) % 18446744073709551616)]) (by simp [results, Tryz.results47, go_sem, z0, z1]) rfl ?_
      exact ⟨rfl, hZB⟩

end Go.Proofs.YtjlnbfpjlladoaaGreatDoor
