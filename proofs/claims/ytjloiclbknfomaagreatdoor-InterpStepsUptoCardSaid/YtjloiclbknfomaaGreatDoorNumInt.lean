/- The document's Int (contract). -/
import Derived.Test.YtjloiclbknfomaaGreatDoorNumFloor
set_option maxRecDepth 100000
namespace Go.Proofs.YtjloiclbknfomaaGreatDoor
open Go.RowKit

theorem odd_partI : ∀ (n m : Nat), m < n → 0 < m → ∃ o t, m = o * 2 ^ t ∧ o % 2 = 1
  | 0, m, h, _ => absurd h (Nat.not_lt_zero _)
  | n + 1, m, h, h0 => by
    by_cases c : m % 2 = 1
    · exact ⟨m, 0, by simp, c⟩
    · obtain ⟨o, t, h1, h2⟩ := odd_partI n (m / 2) (by omega) (by omega)
      refine ⟨o, t + 1, ?_, h2⟩
      rw [Nat.pow_succ, ← Nat.mul_assoc, ← h1]
      omega
theorem intR_is (a o : Nat) (E : Int) : intR a o E = if E < 0 ∨ 63 < E then (0, 11) else if signB ≤ a then (if o * 2 ^ E.toNat ≤ signB then (-((o * 2 ^ E.toNat : Nat) : Int), 0) else (0, 11)) else (if o * 2 ^ E.toNat < signB then (((o * 2 ^ E.toNat : Nat) : Int), 0) else (0, 11)) := rfl
theorem w64_is (n : Int) : wrap64 n = IntKind.i64.wrap n := by
  unfold wrap64
  exact (IntKind.wrap_i64 n).symm
theorem half_stepI (o t j : Nat) (h : j < t) : o * 2 ^ (t - j) = 2 * (o * 2 ^ (t - (j + 1))) := by
  rw [show t - j = (t - (j + 1)) + 1 from by omega, Nat.pow_succ, ← Nat.mul_assoc, Nat.mul_comm 2]
theorem and_one_smallI (x : Nat) (h : x < 18446744073709551616) : bits .and .u64 ((x : Nat) : Int) 1 = ((x % 2 : Nat) : Int) := by
  have h1 : bits .and .u64 ((x : Nat) : Int) ((1 : Nat) : Int) = ((x &&& 1 : Nat) : Int) := u64_and_nat x 1 h (by decide)
  rw [Nat.and_one_is_mod] at h1
  exact h1
set_option maxHeartbeats 8000000 in
set_option maxRecDepth 100000 in
theorem rint_any {a : Nat} (ha : a < 2 * signB) : Grew 56 #[.int .u64 ((a : Nat) : Int)] (.tuple #[.int .i64 (fintR a).1, .int .i64 (fintR a).2]) := by
  intro W
  have ka := (taken_any ha).grew
  have fX : bits .andNot .u64 ((a : Nat) : Int) 9223372036854775808 = ((a % 9223372036854775808 : Nat) : Int) := andNot_sign a (by unfold signB at ha; omega)
  have hinf := int_inf ha
  have hzero := int_zero ha
  have hodd := fun o t => @int_odd a o t ha
  have fS := sgn_of ha
  obtain ⟨x, hxx⟩ : ∃ x, x = a % signB := ⟨_, rfl⟩
  rw [← hxx] at ka hinf hzero hodd
  unfold signB at hxx
  rw [← hxx] at fX
  clear hxx
  have I0 : infB = 9218868437227405312 := rfl
  rw [I0] at hinf hzero hodd
  clear I0
  by_cases c1 : 9218868437227405312 ≤ x
  · rw [hinf c1]
    have t1 : (9218868437227405312 : Int) ≤ ((x : Nat) : Int) := by omega
    obtain ⟨X, hX⟩ : ∃ X : Int, X = ((x : Nat) : Int) := ⟨_, rfl⟩
    rw [← hX] at fX t1
    clear hX c1 hinf hzero hodd fS ka
    go_enter Tryz.func56, Tryz.ntmps56
    go_wp2
    go_ret2
    exact ⟨rfl, Below.refl _ _⟩
  have t1 : ¬ (9218868437227405312 : Int) ≤ ((x : Nat) : Int) := by omega
  have hx : x < 9218868437227405312 := by omega
  have hm1 := @taken_lt x
  have he0 := takenE_ge x
  have he1 := takenE_le (r := x) hx
  obtain ⟨m, hm⟩ : ∃ m, m = takenM x := ⟨_, rfl⟩
  obtain ⟨e, he⟩ : ∃ e, e = takenE x := ⟨_, rfl⟩
  rw [← hm] at ka hm1 hzero hodd
  rw [← he] at ka he0 he1 hodd
  obtain ⟨X, hX⟩ : ∃ X : Int, X = ((x : Nat) : Int) := ⟨_, rfl⟩
  rw [← hX] at fX t1
  clear hm he hX hinf c1
  by_cases c2 : m = 0
  · rw [hzero hx c2]
    subst c2
    rw [show ((0 : Nat) : Int) = 0 from rfl] at ka
    clear hodd fS he0 he1 hm1 hzero hx
    go_enter Tryz.func56, Tryz.ntmps56
    go_wp2_with (go_at_call 53; refine (ka _).mono ?_; rintro r2 w2 ⟨rfl, hb2⟩; have HB2 := Lib.hid hb2; clear hb2)
    go_loopw [5, 6] (fun v5 v6 wr => v5 = .int .u64 0 ∧ v6 = .int .i64 e ∧ Hid (Below W.heap.size W wr)) (fun _ _ _ => 0)
    case atStart => exact ⟨rfl, rfl, HB2⟩
    case round =>
      obtain ⟨rfl, rfl, HB⟩ := hrel
      go_wp2
      go_ret2
      exact ⟨rfl, HB.out⟩
  · obtain ⟨od, t, hmo, ho⟩ := odd_partI (m + 1) m (by omega) (by omega)
    have hF := hodd od t hx hmo ho
    rw [hF]
    have hod : od ≤ m := by
      rw [hmo]
      exact Nat.le_mul_of_pos_right _ (Nat.pow_pos (by decide))
    have ht : t < 53 := by
      rcases Nat.lt_or_ge t 53 with h | h
      · exact h
      · exfalso
        have h2 : 1 * 2 ^ 53 ≤ od * 2 ^ t := Nat.mul_le_mul (by omega) (Nat.pow_le_pow_right (by decide) h)
        have h3 : (1 : Nat) * 2 ^ 53 = 9007199254740992 := by decide
        omega
    clear hzero hodd hF
    obtain ⟨V, hV⟩ : ∃ V : Value, V = .tuple #[.int .i64 (intR a od (e + ((t : Nat) : Int))).1, .int .i64 (intR a od (e + ((t : Nat) : Int))).2] := ⟨_, rfl⟩
    rw [← hV]
    have HV := Lib.hid hV
    clear hV
    have HM := Lib.hid hmo
    clear hmo
    go_enter Tryz.func56, Tryz.ntmps56
    go_wp2_with (go_at_call 53; refine (ka _).mono ?_; rintro r2 w2 ⟨rfl, hb2⟩; have HB2 := Lib.hid hb2; clear hb2)
    have hs2 := HB2.out.size
    go_loopw [5, 6] (fun v5 v6 wr => ∃ j : Nat, v5 = .int .u64 ((od * 2 ^ (t - j) : Nat) : Int) ∧ v6 = .int .i64 (e + ((j : Nat) : Int)) ∧ j ≤ t ∧ Hid (Below W.heap.size W wr)) (fun _ v _ => (3000 - intOf v).toNat)
    case atStart => exact ⟨0, by rw [Nat.sub_zero, ← HM.out], by simp, Nat.zero_le _, HB2⟩
    case round =>
      obtain ⟨j, rfl, rfl, hj, HB⟩ := hrel
      have w6 : IntKind.i64.wrap (e + ((j : Nat) : Int) + 1) = e + ((j : Nat) : Int) + 1 := by
        rw [IntKind.wrap_i64]
        omega
      by_cases c : j < t
      · have hst := half_stepI od t j c
        have hle : od * 2 ^ (t - j) ≤ m := by
          rw [HM.out]
          exact Nat.mul_le_mul_left _ (Nat.pow_le_pow_right (by decide) (by omega))
        have hpos : 0 < od * 2 ^ (t - j) := Nat.mul_pos (by omega) (Nat.pow_pos (by decide))
        obtain ⟨y, hy⟩ : ∃ y, y = od * 2 ^ (t - (j + 1)) := ⟨_, rfl⟩
        rw [← hy] at hst
        rw [hst] at hle hpos ⊢
        have ha1 := and_one_smallI (2 * y) (by omega)
        rw [show 2 * y % 2 = 0 from by omega] at ha1
        have hh : ((2 * y : Nat) : Int) / 2 = ((y : Nat) : Int) := by omega
        have hp : (0 : Int) < ((2 * y : Nat) : Int) := by omega
        obtain ⟨Z, hZ⟩ : ∃ Z : Int, Z = ((2 * y : Nat) : Int) := ⟨_, rfl⟩
        rw [← hZ] at ha1 hh hp ⊢
        have HY := Lib.hid hy
        clear hst hle hpos hy hZ
        go_wp2
        refine ⟨⟨j + 1, by rw [← HY.out], by rw [Int.natCast_add, Int.natCast_one, Int.add_assoc], by omega, HB⟩, by simp [intOf, w6]; omega⟩
      · have hjt : j = t := by omega
        subst hjt
        rw [Nat.sub_self, Nat.pow_zero, Nat.mul_one]
        have ha1 := and_one_smallI od (by omega)
        rw [ho] at ha1
        have hp : (0 : Int) < ((od : Nat) : Int) := by omega
        have hz : (((od : Nat) : Int) == 0) = false := beq_eq_false_iff_ne.2 (by omega)
        obtain ⟨E, hE⟩ : ∃ E : Int, E = e + ((j : Nat) : Int) := ⟨_, rfl⟩
        rw [← hE] at HV ⊢
        clear w6 hE he0 he1 c hj HM ka hx c2
        by_cases k1 : E < 0
        · have H2 : Hid (V = .tuple #[.int .i64 0, .int .i64 11]) := by
            have h := HV.out
            rw [intR_is, if_pos (.inl k1)] at h
            exact h
          clear HV
          go_wp2
          go_ret2
          exact ⟨by rw [H2.out]; rfl, bel_alloc HB.out _⟩
        by_cases k2 : 63 < E
        · have H2 : Hid (V = .tuple #[.int .i64 0, .int .i64 11]) := by
            have h := HV.out
            rw [intR_is, if_pos (.inr k2)] at h
            exact h
          clear HV
          go_wp2
          go_ret2
          exact ⟨by rw [H2.out]; rfl, bel_alloc HB.out _⟩
        obtain ⟨k, rfl⟩ : ∃ k : Nat, E = ((k : Nat) : Int) := ⟨E.toNat, by omega⟩
        have hov : od * 2 ^ k < 340282366920938463463374607431768211456 := Nat.lt_of_le_of_lt (Nat.mul_le_mul (show od ≤ 9007199254740992 by omega) (Nat.pow_le_pow_right (n := 2) (by decide) (show k ≤ 63 by omega))) (by decide)
        have kl0 := fun X => wleft_any (n := od) (k := k) (by omega) hov X
        rw [agw (n := od) (by omega)] at kl0
        have H2 : V = if signB ≤ a then (if od * 2 ^ k ≤ signB then .tuple #[.int .i64 (-((od * 2 ^ k : Nat) : Int)), .int .i64 0] else .tuple #[.int .i64 0, .int .i64 11]) else (if od * 2 ^ k < signB then .tuple #[.int .i64 ((od * 2 ^ k : Nat) : Int), .int .i64 0] else .tuple #[.int .i64 0, .int .i64 11]) := by
          have h := HV.out
          rw [intR_is, if_neg (by omega), Int.toNat_natCast] at h
          rw [h]
          by_cases q1 : signB ≤ a
          · simp only [if_pos q1]
            split <;> rfl
          · simp only [if_neg q1]
            split <;> rfl
        obtain ⟨v, hv⟩ : ∃ v, v = od * 2 ^ k := ⟨_, rfl⟩
        rw [← hv] at kl0 H2 hov
        have kl : ∀ Z : World, Calls Tryz.prog 67 #[.agg #[.int .u64 0, .int .u64 ((od : Nat) : Int)], .int .i64 ((k : Nat) : Int)] Z fun r Z' => r = .returned (.agg #[.int .u64 (((v : Nat) : Int) / 18446744073709551616), .int .u64 (((v : Nat) : Int) % 18446744073709551616)]) ∧ Below Z.heap.size Z Z' := kl0
        have HSW : Hid (signB = 9223372036854775808) := rfl
        rw [HSW.out] at H2
        clear kl0 hv HV hm1

        by_cases ks : signB ≤ a
        · have ks' : 9223372036854775808 ≤ a := ks
          rw [decide_eq_true ks, sgn_t] at fS
          rw [if_pos ks'] at H2
          clear ks ks' ha
          by_cases k3 : v ≤ 9223372036854775808
          · have H3 : Hid (V = .tuple #[.int .i64 (-((v : Nat) : Int)), .int .i64 0]) := by
              rw [H2, if_pos k3]
              exact Lib.hid rfl
            have g1 : ((((v : Nat) : Int) / 18446744073709551616) == 0) = true := by simp only [beq_iff_eq]; omega
            have g2 : (((v : Nat) : Int) % 18446744073709551616) ≤ 9223372036854775808 := by omega
            have g3 : IntKind.i64.wrap (-IntKind.i64.wrap (((v : Nat) : Int) % 18446744073709551616)) = -((v : Nat) : Int) := by
              rw [show (((v : Nat) : Int) % 18446744073709551616) = ((v : Nat) : Int) from by omega]
              rcases (show v < 9223372036854775808 ∨ v = 9223372036854775808 by omega) with h | h
              · rw [show IntKind.i64.wrap ((v : Nat) : Int) = ((v : Nat) : Int) from by rw [IntKind.wrap_i64]; omega, IntKind.wrap_i64]
                omega
              · rw [h]
                decide
            have g4 : wrap64 (-wrap64 (((v : Nat) : Int) % 18446744073709551616)) = -((v : Nat) : Int) := by
              rw [w64_is, w64_is]
              exact g3
            obtain ⟨LO, hLO⟩ : ∃ L : Int, L = (((v : Nat) : Int) % 18446744073709551616) := ⟨_, rfl⟩
            obtain ⟨HI, hHI⟩ : ∃ L : Int, L = (((v : Nat) : Int) / 18446744073709551616) := ⟨_, rfl⟩
            rw [← hLO] at kl g2 g3 g4
            rw [← hHI] at kl g1
            clear hLO hHI
            clear H2 hov k3
            go_wp2_with (go_at_call 67; go_loud (with_reducible refine (kl _).mono ?_; rintro r5 w5 ⟨rfl, hb5⟩; have q5 := Cells.keep (Cells.new wr 111 #[.int .u64 0, .int .u64 ((od : Nat) : Int)]) hb5; have z0 := Cells.fz q5 0; have z1 := Cells.fz q5 1; have y0 := Cells.cell q5 (j := 0) rfl; have y1 := Cells.cell q5 (j := 1) rfl; have HB5 := Lib.hid (grow_to (bel_alloc HB.out _) hb5); have hs := HB.out.size; clear hb5 q5))
            go_ret2
            exact ⟨by rw [H3.out]; first | rfl | (simp; done) | (simp; exact g4), bel_store HB5.out hs _ _⟩
          by_cases k4 : v < 18446744073709551616
          · have H3 : Hid (V = .tuple #[.int .i64 0, .int .i64 11]) := by
              rw [H2, if_neg k3]
              exact Lib.hid rfl
            have g1 : ((((v : Nat) : Int) / 18446744073709551616) == 0) = true := by simp only [beq_iff_eq]; omega
            have g2 : ¬ (((v : Nat) : Int) % 18446744073709551616) ≤ 9223372036854775808 := by omega
            obtain ⟨LO, hLO⟩ : ∃ L : Int, L = (((v : Nat) : Int) % 18446744073709551616) := ⟨_, rfl⟩
            obtain ⟨HI, hHI⟩ : ∃ L : Int, L = (((v : Nat) : Int) / 18446744073709551616) := ⟨_, rfl⟩
            rw [← hLO] at kl g2
            rw [← hHI] at kl g1
            clear hLO hHI
            clear H2 hov k3 k4
            go_wp2_with (go_at_call 67; go_loud (with_reducible refine (kl _).mono ?_; rintro r5 w5 ⟨rfl, hb5⟩; have q5 := Cells.keep (Cells.new wr 111 #[.int .u64 0, .int .u64 ((od : Nat) : Int)]) hb5; have z0 := Cells.fz q5 0; have z1 := Cells.fz q5 1; have y0 := Cells.cell q5 (j := 0) rfl; have y1 := Cells.cell q5 (j := 1) rfl; have HB5 := Lib.hid (grow_to (bel_alloc HB.out _) hb5); have hs := HB.out.size; clear hb5 q5))
            go_ret2
            exact ⟨by rw [H3.out]; first | rfl | (simp; done) | (simp; exact g4), bel_store HB5.out hs _ _⟩
          have H3 : Hid (V = .tuple #[.int .i64 0, .int .i64 11]) := by
            rw [H2, if_neg k3]
            exact Lib.hid rfl
          have g1 : ((((v : Nat) : Int) / 18446744073709551616) == 0) = false := beq_eq_false_iff_ne.2 (by omega)
          obtain ⟨LO, hLO⟩ : ∃ L : Int, L = (((v : Nat) : Int) % 18446744073709551616) := ⟨_, rfl⟩
          obtain ⟨HI, hHI⟩ : ∃ L : Int, L = (((v : Nat) : Int) / 18446744073709551616) := ⟨_, rfl⟩
          rw [← hLO] at kl 
          rw [← hHI] at kl g1
          clear hLO hHI
          clear H2 hov k3 k4
          go_wp2_with (go_at_call 67; go_loud (with_reducible refine (kl _).mono ?_; rintro r5 w5 ⟨rfl, hb5⟩; have q5 := Cells.keep (Cells.new wr 111 #[.int .u64 0, .int .u64 ((od : Nat) : Int)]) hb5; have z0 := Cells.fz q5 0; have z1 := Cells.fz q5 1; have y0 := Cells.cell q5 (j := 0) rfl; have y1 := Cells.cell q5 (j := 1) rfl; have HB5 := Lib.hid (grow_to (bel_alloc HB.out _) hb5); have hs := HB.out.size; clear hb5 q5))
          go_ret2
          exact ⟨by rw [H3.out]; first | rfl | (simp; done) | (simp; exact g4), bel_store HB5.out hs _ _⟩
        · have ks' : ¬ 9223372036854775808 ≤ a := ks
          rw [decide_eq_false ks, sgn_f] at fS
          rw [if_neg ks'] at H2
          clear ks ks' ha
          by_cases k3 : v < 9223372036854775808
          · have H3 : Hid (V = .tuple #[.int .i64 ((v : Nat) : Int), .int .i64 0]) := by
              rw [H2, if_pos k3]
              exact Lib.hid rfl
            have g1 : ((((v : Nat) : Int) / 18446744073709551616) == 0) = true := by simp only [beq_iff_eq]; omega
            have g2 : (((v : Nat) : Int) % 18446744073709551616) < 9223372036854775808 := by omega
            have g3 : IntKind.i64.wrap (((v : Nat) : Int) % 18446744073709551616) = ((v : Nat) : Int) := by
              rw [IntKind.wrap_i64]
              omega
            have g4 : wrap64 (((v : Nat) : Int) % 18446744073709551616) = ((v : Nat) : Int) := by
              unfold wrap64
              omega
            obtain ⟨LO, hLO⟩ : ∃ L : Int, L = (((v : Nat) : Int) % 18446744073709551616) := ⟨_, rfl⟩
            obtain ⟨HI, hHI⟩ : ∃ L : Int, L = (((v : Nat) : Int) / 18446744073709551616) := ⟨_, rfl⟩
            rw [← hLO] at kl g2 g3 g4
            rw [← hHI] at kl g1
            clear hLO hHI
            clear H2 hov k3
            go_wp2_with (go_at_call 67; go_loud (with_reducible refine (kl _).mono ?_; rintro r5 w5 ⟨rfl, hb5⟩; have q5 := Cells.keep (Cells.new wr 111 #[.int .u64 0, .int .u64 ((od : Nat) : Int)]) hb5; have z0 := Cells.fz q5 0; have z1 := Cells.fz q5 1; have y0 := Cells.cell q5 (j := 0) rfl; have y1 := Cells.cell q5 (j := 1) rfl; have HB5 := Lib.hid (grow_to (bel_alloc HB.out _) hb5); have hs := HB.out.size; clear hb5 q5))
            go_ret2
            exact ⟨by rw [H3.out]; first | rfl | (simp; done) | (simp; exact g4), bel_store HB5.out hs _ _⟩
          by_cases k4 : v < 18446744073709551616
          · have H3 : Hid (V = .tuple #[.int .i64 0, .int .i64 11]) := by
              rw [H2, if_neg k3]
              exact Lib.hid rfl
            have g1 : ((((v : Nat) : Int) / 18446744073709551616) == 0) = true := by simp only [beq_iff_eq]; omega
            have g2 : ¬ (((v : Nat) : Int) % 18446744073709551616) < 9223372036854775808 := by omega
            obtain ⟨LO, hLO⟩ : ∃ L : Int, L = (((v : Nat) : Int) % 18446744073709551616) := ⟨_, rfl⟩
            obtain ⟨HI, hHI⟩ : ∃ L : Int, L = (((v : Nat) : Int) / 18446744073709551616) := ⟨_, rfl⟩
            rw [← hLO] at kl g2
            rw [← hHI] at kl g1
            clear hLO hHI
            clear H2 hov k3 k4
            go_wp2_with (go_at_call 67; go_loud (with_reducible refine (kl _).mono ?_; rintro r5 w5 ⟨rfl, hb5⟩; have q5 := Cells.keep (Cells.new wr 111 #[.int .u64 0, .int .u64 ((od : Nat) : Int)]) hb5; have z0 := Cells.fz q5 0; have z1 := Cells.fz q5 1; have y0 := Cells.cell q5 (j := 0) rfl; have y1 := Cells.cell q5 (j := 1) rfl; have HB5 := Lib.hid (grow_to (bel_alloc HB.out _) hb5); have hs := HB.out.size; clear hb5 q5))
            go_ret2
            exact ⟨by rw [H3.out]; first | rfl | (simp; done) | (simp; exact g4), bel_store HB5.out hs _ _⟩
          have H3 : Hid (V = .tuple #[.int .i64 0, .int .i64 11]) := by
            rw [H2, if_neg k3]
            exact Lib.hid rfl
          have g1 : ((((v : Nat) : Int) / 18446744073709551616) == 0) = false := beq_eq_false_iff_ne.2 (by omega)
          obtain ⟨LO, hLO⟩ : ∃ L : Int, L = (((v : Nat) : Int) % 18446744073709551616) := ⟨_, rfl⟩
          obtain ⟨HI, hHI⟩ : ∃ L : Int, L = (((v : Nat) : Int) / 18446744073709551616) := ⟨_, rfl⟩
          rw [← hLO] at kl 
          rw [← hHI] at kl g1
          clear hLO hHI
          clear H2 hov k3 k4
          go_wp2_with (go_at_call 67; go_loud (with_reducible refine (kl _).mono ?_; rintro r5 w5 ⟨rfl, hb5⟩; have q5 := Cells.keep (Cells.new wr 111 #[.int .u64 0, .int .u64 ((od : Nat) : Int)]) hb5; have z0 := Cells.fz q5 0; have z1 := Cells.fz q5 1; have y0 := Cells.cell q5 (j := 0) rfl; have y1 := Cells.cell q5 (j := 1) rfl; have HB5 := Lib.hid (grow_to (bel_alloc HB.out _) hb5); have hs := HB.out.size; clear hb5 q5))
          go_ret2
          exact ⟨by rw [H3.out]; first | rfl | (simp; done) | (simp; exact g4), bel_store HB5.out hs _ _⟩
end Go.Proofs.YtjloiclbknfomaaGreatDoor
