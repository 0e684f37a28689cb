/- The document's quotients (contract). -/
import Derived.Test.YtjloiclbknfomaaGreatDoorNumMul
set_option maxRecDepth 100000
namespace Go.Proofs.YtjloiclbknfomaaGreatDoor
open Go.RowKit

set_option maxHeartbeats 8000000 in
set_option maxRecDepth 100000 in
theorem rdiv_main {a b : Nat} (ha : a < 2 * signB) (hb : b < 2 * signB) (hx : a % signB < 9218868437227405312) (hy : b % signB < 9218868437227405312) (hx0 : a % signB ≠ 0) (hy0 : b % signB ≠ 0) :
    Grew 43 #[.int .u64 ((a : Nat) : Int), .int .u64 ((b : Nat) : Int)] (.int .u64 ((rnd (decide (signB ≤ a) ^^ decide (signB ≤ b)) (takenM (a % signB) * 2 ^ (123 - (takenM (a % signB)).log2) / takenM (b % signB)) (takenE (a % signB) - ((123 - (takenM (a % signB)).log2 : Nat) : Int) - takenE (b % signB)) (decide (takenM (a % signB) * 2 ^ (123 - (takenM (a % signB)).log2) % takenM (b % signB) ≠ 0)) : Nat) : Int)) := by
  intro W
  have fX : bits .andNot .u64 ((a : Nat) : Int) 9223372036854775808 = ((a % 9223372036854775808 : Nat) : Int) := andNot_sign a (by unfold signB at ha; omega)
  have fY : bits .andNot .u64 ((b : Nat) : Int) 9223372036854775808 = ((b % 9223372036854775808 : Nat) : Int) := andNot_sign b (by unfold signB at hb; omega)
  have fS := sgn_xor ha hb
  have ka := (taken_any ha).grew
  have kb := (taken_any hb).grew
  obtain ⟨s, hs⟩ : ∃ s, s = (decide (signB ≤ a) ^^ decide (signB ≤ b)) := ⟨_, rfl⟩
  rw [← hs] at fS ⊢
  obtain ⟨x, hxx⟩ : ∃ x, x = a % signB := ⟨_, rfl⟩
  obtain ⟨y, hyy⟩ : ∃ y, y = b % signB := ⟨_, rfl⟩
  rw [← hxx] at hx hx0 ka ⊢
  rw [← hyy] at hy hy0 kb ⊢
  unfold signB at hxx hyy
  rw [← hxx] at fX
  rw [← hyy] at fY
  have hmn := @taken_lt x
  have hnn := @taken_lt y
  have he0 := takenE_ge x
  have hf0 := takenE_ge y
  have he1 := takenE_le (r := x) hx
  have hf1 := takenE_le (r := y) hy
  have hm0 := takenM_pos hx0
  have hn0 := takenM_pos hy0
  obtain ⟨m, hm⟩ : ∃ m, m = takenM x := ⟨_, rfl⟩
  obtain ⟨n, hn⟩ : ∃ n, n = takenM y := ⟨_, rfl⟩
  obtain ⟨e, he⟩ : ∃ e, e = takenE x := ⟨_, rfl⟩
  obtain ⟨f, hf⟩ : ∃ f, f = takenE y := ⟨_, rfl⟩
  rw [← hm] at ka hmn hm0 ⊢
  rw [← hn] at kb hnn hn0 ⊢
  rw [← he] at ka he0 he1 ⊢
  rw [← hf] at kb hf0 hf1 ⊢
  clear hm hn he hf hs hxx hyy
  have t1 : ¬ (9218868437227405312 : Int) < ((x : Nat) : Int) := by omega
  have t2 : ¬ (9218868437227405312 : Int) < ((y : Nat) : Int) := by omega
  have t3 : (((x : Nat) : Int) == 9218868437227405312) = false := beq_eq_false_iff_ne.2 (by omega)
  have t4 : (((y : Nat) : Int) == 9218868437227405312) = false := beq_eq_false_iff_ne.2 (by omega)
  have t5 : (((x : Nat) : Int) == 0) = false := beq_eq_false_iff_ne.2 (by omega)
  have t6 : (((y : Nat) : Int) == 0) = false := beq_eq_false_iff_ne.2 (by omega)
  obtain ⟨X, hX⟩ : ∃ X : Int, X = ((x : Nat) : Int) := ⟨_, rfl⟩
  obtain ⟨Y, hY⟩ : ∃ Y : Int, Y = ((y : Nat) : Int) := ⟨_, rfl⟩
  rw [← hX] at fX t1 t3 t5
  rw [← hY] at fY t2 t4 t6
  clear hX hY hx hy hx0 hy0
  obtain ⟨S, hS⟩ : ∃ S : Int, S = ((sgn s : Nat) : Int) := ⟨_, rfl⟩
  rw [← hS] at fS
  have hl52 : m.log2 < 53 := (Nat.log2_lt (by omega)).2 (by omega)
  have hlo := log_le m (by omega)
  have hup : m < 2 ^ (m.log2 + 1) := Nat.lt_log2_self
  obtain ⟨J, hJ⟩ : ∃ J, J = 123 - m.log2 := ⟨_, rfl⟩
  rw [← hJ]
  have hsmall : ∀ j, j < J → m * 2 ^ j < 10633823966279326983230456482242756608 := fun j hj => by
    have h1 : m * 2 ^ j < 2 ^ (m.log2 + 1) * 2 ^ j := Nat.mul_lt_mul_of_pos_right hup (Nat.pow_pos (by decide))
    rw [← Nat.pow_add] at h1
    exact Nat.lt_of_lt_of_le h1 (Nat.le_trans (Nat.pow_le_pow_right (by decide) (show m.log2 + 1 + j ≤ 123 by omega)) (by decide))
  have hbig : 10633823966279326983230456482242756608 ≤ m * 2 ^ J := by
    have h1 : 2 ^ m.log2 * 2 ^ J ≤ m * 2 ^ J := Nat.mul_le_mul_right _ hlo
    rw [← Nat.pow_add, show m.log2 + J = 123 from by omega] at h1
    exact Nat.le_trans (by decide) h1
  have htop : m * 2 ^ J < 21267647932558653966460912964485513216 := by
    have h1 : m * 2 ^ J < 2 ^ (m.log2 + 1) * 2 ^ J := Nat.mul_lt_mul_of_pos_right hup (Nat.pow_pos (by decide))
    rw [← Nat.pow_add, show m.log2 + 1 + J = 124 from by omega] at h1
    exact Nat.lt_of_lt_of_le h1 (by decide)
  clear hlo hup
  obtain ⟨D0, hD0⟩ : ∃ D0, D0 = m * 2 ^ J := ⟨_, rfl⟩
  rw [← hD0] at hbig htop ⊢
  have kq0 := fun X => by_any (w := D0) (n := n) (by omega) (by omega) (by omega) X
  have hq0 : D0 / n ≤ D0 := Nat.div_le_self _ _
  have kr0 := fun X => rounded_any s (decide (0 < D0 % n)) (w := D0 / n) (e := e - ((J : Nat) : Int) - f) (by omega) (by omega) (by omega) X
  rw [show decide (D0 % n ≠ 0) = decide (0 < D0 % n) from decide_eq_decide.2 (by omega)]
  obtain ⟨q, hq⟩ : ∃ q, q = D0 / n := ⟨_, rfl⟩
  obtain ⟨rest, hrest⟩ : ∃ rest, rest = decide (0 < D0 % n) := ⟨_, rfl⟩
  rw [← hq, ← hrest] at kq0 kr0 ⊢
  rw [← hS] at kr0
  obtain ⟨v, hv⟩ : ∃ v, v = rnd s q (e - ((J : Nat) : Int) - f) rest := ⟨_, rfl⟩
  rw [← hv] at kr0 ⊢
  have kq : ∀ Z : World, Calls Tryz.prog 72 #[.agg #[.int .u64 (((D0 : Nat) : Int) / 18446744073709551616), .int .u64 (((D0 : Nat) : Int) % 18446744073709551616)], .int .u64 ((n : Nat) : Int)] Z fun r Z' => r = .returned (.tuple #[.agg #[.int .u64 (((q : Nat) : Int) / 18446744073709551616), .int .u64 (((q : Nat) : Int) % 18446744073709551616)], .bool rest]) ∧ Below Z.heap.size Z Z' := kq0
  have kr : ∀ Z : World, Calls Tryz.prog 68 #[.int .u64 S, .agg #[.int .u64 (((q : Nat) : Int) / 18446744073709551616), .int .u64 (((q : Nat) : Int) % 18446744073709551616)], .int .i64 (e - ((J : Nat) : Int) - f), .bool rest] Z fun r Z' => r = .returned (.int .u64 ((v : Nat) : Int)) ∧ Below Z.heap.size Z Z' := kr0
  clear kq0 kr0 hv hS hq hrest hq0
  go_enter Tryz.func43, Tryz.ntmps43
  go_wp2_with (first | (go_at_call 53; first | (with_reducible (refine (ka _).mono ?_); rintro r1 w1 ⟨rfl, hb1⟩; have HB1 := Lib.hid hb1; clear hb1) | (with_reducible (refine (kb _).mono ?_); rintro r2 w2 ⟨rfl, hb2⟩; have HB2 := Lib.hid (grow_to HB1.out hb2); clear hb2)))
  have hs2 := HB2.out.size
  go_loopw [9] (fun v wr => ∃ j : Nat, v = .int .i64 (e - ((j : Nat) : Int)) ∧ j ≤ J ∧ WAt wr w2.heap.size (m * 2 ^ j) ∧ Below W.heap.size W wr) (fun v _ => (intOf v + 3000).toNat)
  case atStart =>
    refine ⟨0, by simp, by omega, ?_, bel_alloc HB2.out _⟩
    rw [Nat.pow_zero, Nat.mul_one]
    have h := Cells.new w2 111 (wc m)
    rw [wcw (n := m) (by omega)] at h
    unfold WAt
    rw [wcw (n := m) (by omega)]
    exact h
  case round =>
    obtain ⟨j, rfl, hj, hC, hB⟩ := hrel
    have hlt := Cells.lt hC
    by_cases c : j < J
    · have hb1 := hsmall j c
      have kl0 := fun X => wleft_any (n := m * 2 ^ j) (k := 1) (by omega) (by omega) X
      rw [Nat.mul_assoc, ← Nat.pow_add] at kl0
      obtain ⟨x, hx⟩ : ∃ x, x = m * 2 ^ j := ⟨_, rfl⟩
      obtain ⟨y, hy⟩ : ∃ y, y = m * 2 ^ (j + 1) := ⟨_, rfl⟩
      rw [← hx, ← hy] at kl0
      rw [← hx] at hC hb1
      have kl : ∀ Z : World, Calls Tryz.prog 67 #[.agg #[.int .u64 (((x : Nat) : Int) / 18446744073709551616), .int .u64 (((x : Nat) : Int) % 18446744073709551616)], .int .i64 1] Z fun r Z' => r = .returned (.agg #[.int .u64 (((y : Nat) : Int) / 18446744073709551616), .int .u64 (((y : Nat) : Int) % 18446744073709551616)]) ∧ Below Z.heap.size Z Z' := kl0
      have d0 := WAt.c0 hC
      have d1 := WAt.c1 hC
      have g1 : (((x : Nat) : Int) / 18446744073709551616) / 576460752303423488 = 0 := by omega
      have w2 : IntKind.i64.wrap (e - ((j : Nat) : Int) - 1) = e - ((j : Nat) : Int) - 1 := by
        rw [IntKind.wrap_i64]
        omega
      have HC := Lib.hid hC
      have HY := Lib.hid hy
      clear kl0 hC hx hy hb1
      go_wp2_with (first | (go_at_call 67; go_loud (refine (kl _).mono ?_; rintro r5 w5 ⟨rfl, hb5⟩; have hC5 := Cells.keep HC.out hb5; have z0 := Cells.fz hC5 0; have z1 := Cells.fz hC5 1; have z2 := WAt.c0 hC5; have z3 := WAt.c1 hC5; have HC5 := Lib.hid hC5; have HB5 := Lib.hid (grow_to hB hb5); clear hb5 hC5)))
      exact ⟨⟨j + 1, by rw [Int.natCast_add, Int.natCast_one, Int.sub_sub], by omega, by rw [← HY.out]; exact WAt.store HC5.out, bel_store HB5.out hs2 _ _⟩, by simp [intOf]; omega⟩
    · have hjJ : j = J := by omega
      subst hjJ
      rw [← hD0] at hC
      have d0 := WAt.c0 hC
      have d1 := WAt.c1 hC
      have g1 : ((((D0 : Nat) : Int) / 18446744073709551616) / 576460752303423488 == 0) = false := beq_eq_false_iff_ne.2 (by omega)
      have w2 : IntKind.i64.wrap (e - ((j : Nat) : Int) - f) = e - ((j : Nat) : Int) - f := by
        rw [IntKind.wrap_i64]
        omega
      have HC := Lib.hid hC
      have HB := Lib.hid hB
      clear hC hB hsmall hbig htop hD0 hJ hl52 ka kb he0 he1 hf0 hf1 hmn hnn hm0 hn0 hj c
      go_wp2_with (first | (go_at_call 72; go_loud (refine (kq _).mono ?_; rintro r5 w5 ⟨rfl, hb5⟩; have HB5 := Lib.hid (grow_to HB.out hb5); clear hb5)) | (go_at_call 68; go_loud (refine (kr _).mono ?_; rintro r6 w6 ⟨rfl, hb6⟩; have HB6 := Lib.hid (grow_to (bel_alloc HB5.out _) hb6); clear hb6)))
      go_ret
      exact ⟨rfl, HB6.out⟩

set_option maxHeartbeats 8000000 in
set_option maxRecDepth 100000 in
theorem rdiv_any {a b : Nat} (ha : a < 2 * signB) (hb : b < 2 * signB) : Grew 43 #[.int .u64 ((a : Nat) : Int), .int .u64 ((b : Nat) : Int)] (.int .u64 ((fdiv a b : Nat) : Int)) := by
  intro W
  rw [fdiv_eq ha hb]
  have km := rdiv_main ha hb
  have fS := sgn_xor ha hb
  have hR : rDiv a b = if infB < a % signB ∨ infB < b % signB ∨ (a % signB = infB ∧ b % signB = infB) ∨ (a % signB = 0 ∧ b % signB = 0) then nanB else if a % signB = infB ∨ b % signB = 0 then D.word (decide (signB ≤ a) ^^ decide (signB ≤ b)) infB else if b % signB = infB ∨ a % signB = 0 then D.word (decide (signB ≤ a) ^^ decide (signB ≤ b)) 0 else rnd (decide (signB ≤ a) ^^ decide (signB ≤ b)) (takenM (a % signB) * 2 ^ (123 - (takenM (a % signB)).log2) / takenM (b % signB)) (takenE (a % signB) - ((123 - (takenM (a % signB)).log2 : Nat) : Int) - takenE (b % signB)) (decide (takenM (a % signB) * 2 ^ (123 - (takenM (a % signB)).log2) % takenM (b % signB) ≠ 0)) := rfl
  have fX : bits .andNot .u64 ((a : Nat) : Int) 9223372036854775808 = ((a % 9223372036854775808 : Nat) : Int) := andNot_sign a (by unfold signB at ha; omega)
  have fY : bits .andNot .u64 ((b : Nat) : Int) 9223372036854775808 = ((b % 9223372036854775808 : Nat) : Int) := andNot_sign b (by unfold signB at hb; omega)
  obtain ⟨s, hs⟩ : ∃ s, s = (decide (signB ≤ a) ^^ decide (signB ≤ b)) := ⟨_, rfl⟩
  rw [← hs] at fS hR km
  have fO : bits .or .u64 ((sgn s : Nat) : Int) 9218868437227405312 = ((D.word s infB : Nat) : Int) := by
    rw [word_sgn]
    exact or_sgn s (r := 9218868437227405312) (by decide)
  have fZ : D.word s 0 = sgn s := by rw [word_sgn]; rfl
  rw [fZ] at hR
  obtain ⟨S, hS⟩ : ∃ S : Int, S = ((sgn s : Nat) : Int) := ⟨_, rfl⟩
  rw [← hS] at fS fO
  obtain ⟨x, hxx⟩ : ∃ x, x = a % signB := ⟨_, rfl⟩
  obtain ⟨y, hyy⟩ : ∃ y, y = b % signB := ⟨_, rfl⟩
  rw [← hxx, ← hyy] at hR km
  unfold signB at hxx hyy
  rw [← hxx] at fX
  rw [← hyy] at fY
  clear hxx hyy hs fZ
  obtain ⟨I, hI⟩ : ∃ I, I = D.word s infB := ⟨_, rfl⟩
  rw [← hI] at fO hR
  have I0 : infB = 9218868437227405312 := rfl
  rw [I0] at hR
  clear I0 hI
  obtain ⟨v, hv⟩ : ∃ v, v = rDiv a b := ⟨_, rfl⟩
  rw [← hv] at hR ⊢
  clear hv ha hb
  obtain ⟨X, hX⟩ : ∃ X : Int, X = ((x : Nat) : Int) := ⟨_, rfl⟩
  obtain ⟨Y, hY⟩ : ∃ Y : Int, Y = ((y : Nat) : Int) := ⟨_, rfl⟩
  rw [← hX] at fX
  rw [← hY] at fY

  by_cases c1 : 9218868437227405312 < x
  · rw [if_pos (.inl c1)] at hR
    have t1 : (9218868437227405312 : Int) < X := by omega
    clear hX hY km hS c1
    go_enter Tryz.func43, Tryz.ntmps43
    go_wp2
    go_ret
    exact ⟨by first | rfl | (rw [hR]; rfl), Below.refl _ _⟩
  have t1 : ¬ (9218868437227405312 : Int) < X := by omega
  by_cases c2 : 9218868437227405312 < y
  · rw [if_pos (.inr (.inl c2))] at hR
    have t2 : (9218868437227405312 : Int) < Y := by omega
    clear hX hY km hS c1 c2
    go_enter Tryz.func43, Tryz.ntmps43
    go_wp2
    go_ret
    exact ⟨by first | rfl | (rw [hR]; rfl), Below.refl _ _⟩
  have t2 : ¬ (9218868437227405312 : Int) < Y := by omega
  by_cases cx0 : x = 9218868437227405312
  · by_cases cy0 : y = 9218868437227405312
    · rw [if_pos (by omega)] at hR
      have e0 : X = 9218868437227405312 := by omega
      have e1 : Y = 9218868437227405312 := by omega
      clear hX hY km c1 c2 cx0 cy0
      rw [e0] at fX t1
      rw [e1] at fY t2
      clear e0
      clear e1
      clear hS
      go_enter Tryz.func43, Tryz.ntmps43
      go_wp2
      go_ret
      exact ⟨by first | rfl | (rw [hR]; rfl), Below.refl _ _⟩
    by_cases cy1 : y = 0
    · rw [if_neg (by omega), if_pos (by omega)] at hR
      have e0 : X = 9218868437227405312 := by omega
      have v0 : (Y == 9218868437227405312) = false := beq_eq_false_iff_ne.2 (by omega)
      have e1 : Y = 0 := by omega
      clear hX hY km c1 c2 cx0 cy0 cy1
      rw [e0] at fX t1
      rw [e1] at fY t2 v0
      clear e0
      clear e1
      clear hS
      go_enter Tryz.func43, Tryz.ntmps43
      go_wp2
      go_ret
      exact ⟨by first | rfl | (rw [hR]; rfl), Below.refl _ _⟩
    rw [if_neg (by omega), if_pos (by omega)] at hR
    have e0 : X = 9218868437227405312 := by omega
    have v0 : (Y == 9218868437227405312) = false := beq_eq_false_iff_ne.2 (by omega)
    have v1 : (Y == 0) = false := beq_eq_false_iff_ne.2 (by omega)
    clear hX hY km c1 c2 cx0 cy0 cy1
    rw [e0] at fX t1
    clear e0
    clear hS
    go_enter Tryz.func43, Tryz.ntmps43
    go_wp2
    go_ret
    exact ⟨by first | rfl | (rw [hR]; rfl), Below.refl _ _⟩
  by_cases cx1 : x = 0
  · by_cases cy0 : y = 9218868437227405312
    · rw [if_neg (by omega), if_neg (by omega), if_pos (by omega)] at hR
      have u0 : (X == 9218868437227405312) = false := beq_eq_false_iff_ne.2 (by omega)
      have e0 : X = 0 := by omega
      have e1 : Y = 9218868437227405312 := by omega
      clear hX hY km c1 c2 cx0 cx1 cy0
      rw [e0] at fX t1 u0
      rw [e1] at fY t2
      clear e0
      clear e1
      go_enter Tryz.func43, Tryz.ntmps43
      go_wp2
      go_ret
      exact ⟨by first | rfl | (rw [hR, ← hS]; rfl) | (rw [hR, hS]; rfl), Below.refl _ _⟩
    by_cases cy1 : y = 0
    · rw [if_pos (by omega)] at hR
      have u0 : (X == 9218868437227405312) = false := beq_eq_false_iff_ne.2 (by omega)
      have e0 : X = 0 := by omega
      have v0 : (Y == 9218868437227405312) = false := beq_eq_false_iff_ne.2 (by omega)
      have e1 : Y = 0 := by omega
      clear hX hY km c1 c2 cx0 cx1 cy0 cy1
      rw [e0] at fX t1 u0
      rw [e1] at fY t2 v0
      clear e0
      clear e1
      clear hS
      go_enter Tryz.func43, Tryz.ntmps43
      go_wp2
      go_ret
      exact ⟨by first | rfl | (rw [hR]; rfl), Below.refl _ _⟩
    rw [if_neg (by omega), if_neg (by omega), if_pos (by omega)] at hR
    have u0 : (X == 9218868437227405312) = false := beq_eq_false_iff_ne.2 (by omega)
    have e0 : X = 0 := by omega
    have v0 : (Y == 9218868437227405312) = false := beq_eq_false_iff_ne.2 (by omega)
    have v1 : (Y == 0) = false := beq_eq_false_iff_ne.2 (by omega)
    clear hX hY km c1 c2 cx0 cx1 cy0 cy1
    rw [e0] at fX t1 u0
    clear e0
    go_enter Tryz.func43, Tryz.ntmps43
    go_wp2
    go_ret
    exact ⟨by first | rfl | (rw [hR, ← hS]; rfl) | (rw [hR, hS]; rfl), Below.refl _ _⟩
  by_cases cy0 : y = 9218868437227405312
  · rw [if_neg (by omega), if_neg (by omega), if_pos (by omega)] at hR
    have u0 : (X == 9218868437227405312) = false := beq_eq_false_iff_ne.2 (by omega)
    have u1 : (X == 0) = false := beq_eq_false_iff_ne.2 (by omega)
    have e1 : Y = 9218868437227405312 := by omega
    clear hX hY km c1 c2 cx0 cx1 cy0
    rw [e1] at fY t2
    clear e1
    go_enter Tryz.func43, Tryz.ntmps43
    go_wp2
    go_ret
    exact ⟨by first | rfl | (rw [hR, ← hS]; rfl) | (rw [hR, hS]; rfl), Below.refl _ _⟩
  by_cases cy1 : y = 0
  · rw [if_neg (by omega), if_pos (by omega)] at hR
    have u0 : (X == 9218868437227405312) = false := beq_eq_false_iff_ne.2 (by omega)
    have u1 : (X == 0) = false := beq_eq_false_iff_ne.2 (by omega)
    have v0 : (Y == 9218868437227405312) = false := beq_eq_false_iff_ne.2 (by omega)
    have e1 : Y = 0 := by omega
    clear hX hY km c1 c2 cx0 cx1 cy0 cy1
    rw [e1] at fY t2 v0
    clear e1
    clear hS
    go_enter Tryz.func43, Tryz.ntmps43
    go_wp2
    go_ret
    exact ⟨by first | rfl | (rw [hR]; rfl), Below.refl _ _⟩
  rw [if_neg (by omega), if_neg (by omega), if_neg (by omega)] at hR
  rw [hR]
  exact km (by omega) (by omega) (by omega) (by omega) W
end Go.Proofs.YtjloiclbknfomaaGreatDoor
