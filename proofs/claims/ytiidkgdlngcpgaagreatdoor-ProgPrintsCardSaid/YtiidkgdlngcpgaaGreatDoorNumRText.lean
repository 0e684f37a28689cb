/- The document's text of a number (contracts of taken, Digits, Text). -/
import Derived.Test.YtiidkgdlngcpgaaGreatDoorNumTabs
set_option maxRecDepth 100000
namespace Go.Proofs.YtiidkgdlngcpgaaGreatDoor
open Go.RowKit Ieee

theorem takes_any {a : Nat} (ha : a < 2 * signB) : Told 103 #[.int .u64 ((a : Nat) : Int)] (.tuple #[.int .u64 ((takenM (a % signB) : Nat) : Int), .int .i64 (takenE (a % signB))]) := by
  intro w
  have f1 : bits .and .u64 (((a : Nat) : Int) / 4503599627370496) 2047 = ((a / 4503599627370496 % 2048 : Nat) : Int) := by
    have h := u64_and_nat (a / 4503599627370496) 2047 (by unfold signB at ha; omega) (by decide)
    rw [show a / 4503599627370496 &&& 2047 = a / 4503599627370496 % 2048 from Nat.and_two_pow_sub_one_eq_mod _ 11] at h
    exact h
  have f2 := and_frac ha
  have f4 : bits .or .u64 ((a % 4503599627370496 : Nat) : Int) 4503599627370496 = ((4503599627370496 + a % 4503599627370496 : Nat) : Int) := by
    have h : bits .or .u64 ((a % 4503599627370496 : Nat) : Int) 4503599627370496 = ((a % 4503599627370496 ||| 4503599627370496 : Nat) : Int) := u64_or_nat (a % 4503599627370496) 4503599627370496 (by omega) (by decide)
    rw [Nat.or_comm, nat_join 52 4503599627370496 (a % 4503599627370496) (by decide) (by omega)] at h
    exact h
  by_cases c : a / 4503599627370496 % 2048 = 0
  · have hr : takenM (a % signB) = a % 4503599627370496 ∧ takenE (a % signB) = -1074 := by
      unfold takenM takenE signB
      have hlt : a % 9223372036854775808 < 4503599627370496 := by omega
      rw [if_pos hlt, if_pos hlt]
      exact ⟨by omega, rfl⟩
    rw [hr.1, hr.2]
    rw [c] at f1
    obtain ⟨M, hM⟩ : ∃ z : Int, z = ((a % 4503599627370496 : Nat) : Int) := ⟨_, rfl⟩
    rw [← hM] at f2 f4 ⊢
    clear hM hr c ha
    go_enter Tryz.func103, Tryz.ntmps103
    go_wp2
    go_ret2
    exact ⟨rfl, 0, rfl⟩
  · have hr : takenM (a % signB) = 4503599627370496 + a % 4503599627370496 ∧ takenE (a % signB) = ((a / 4503599627370496 % 2048 : Nat) : Int) - 1075 := by
      unfold takenM takenE signB
      have hlt : ¬ a % 9223372036854775808 < 4503599627370496 := by omega
      rw [if_neg hlt, if_neg hlt]
      exact ⟨by omega, by omega⟩
    rw [hr.1, hr.2]
    have c2 : ¬ ((a / 4503599627370496 % 2048 : Nat) : Int) = 0 := by omega
    have c3 : 0 ≤ ((a / 4503599627370496 % 2048 : Nat) : Int) ∧ ((a / 4503599627370496 % 2048 : Nat) : Int) < 2048 := by omega
    obtain ⟨X, hX⟩ : ∃ z : Int, z = ((a / 4503599627370496 % 2048 : Nat) : Int) := ⟨_, rfl⟩
    obtain ⟨Z, hZ⟩ : ∃ z : Int, z = ((4503599627370496 + a % 4503599627370496 : Nat) : Int) := ⟨_, rfl⟩
    obtain ⟨M, hM⟩ : ∃ z : Int, z = ((a % 4503599627370496 : Nat) : Int) := ⟨_, rfl⟩
    rw [← hX] at f1 c2 c3 ⊢
    rw [← hZ] at f4 ⊢
    rw [← hM] at f2 f4
    have w1 : IntKind.i64.wrap X = X := by
      rw [IntKind.wrap_i64]
      omega
    have w2 : IntKind.i64.wrap (X - 1075) = X - 1075 := by
      rw [IntKind.wrap_i64]
      omega
    clear hM hr c ha hX hZ
    go_enter Tryz.func103, Tryz.ntmps103
    go_wp2
    go_ret2
    exact ⟨rfl, 0, rfl⟩


set_option maxHeartbeats 2000000 in
theorem rdigits_any : ∀ (k n : Nat), n < k → n < 18446744073709551616 → ∀ w : World, Calls Tryz.prog 35 #[.int .u64 ((n : Nat) : Int)] w fun e w' => e = .returned (.string ⟨(Lib.decDigits n).toArray⟩) ∧ Below w.heap.size w w'
  | 0, n, h, _, _ => absurd h (Nat.not_lt_zero _)
  | k + 1, n, hk, hn, w => by
    obtain ⟨d, hd⟩ : ∃ d, d = UInt8.ofNat (48 + n % 10) := ⟨_, rfl⟩
    have hdn : d.toNat = 48 + n % 10 := by
      rw [hd, UInt8.toNat_ofNat']
      omega
    have w1 : IntKind.u64.wrap (48 + ((n : Nat) : Int) % 10) = 48 + ((n : Nat) : Int) % 10 := by
      rw [IntKind.wrap_u64]
      omega
    have w2 : IntKind.u8.wrap (48 + ((n : Nat) : Int) % 10) = ((d.toNat : Nat) : Int) := by
      rw [IntKind.wrap_u8]
      omega
    have hcv : (convert 46 9 (.slice (some ⟨w.heap.size, 0, none⟩) 1 1)).run Tryz.prog (w.alloc (.cells #[.int .u8 ((d.toNat : Nat) : Int)] 5)) = .ok (.string ⟨[d].toArray⟩) (w.alloc (.cells #[.int .u8 ((d.toNat : Nat) : Int)] 5)) :=
      run_convert_bytes_back (P := Tryz.prog) (w.alloc (.cells #[.int .u8 ((d.toNat : Nat) : Int)] 5)) 46 9 5 ⟨w.heap.size, 0, none⟩ 1 [d] Tryz.underlying46 Tryz.underlying5 Tryz.underlying9 (fun j hj => by
        have hj0 : j = 0 := by simpa using hj
        subst hj0
        rw [Lib.add_plain, World.cell?_alloc_new]
        rfl)
    have q : ((n : Nat) : Int) / 10 = ((n / 10 : Nat) : Int) := by omega
    by_cases c : n < 10
    · have c1 : ¬ (10 : Int) ≤ ((n : Nat) : Int) := by omega
      have hR : Lib.decDigits n = [d] := by
        rw [Lib.decDigits, dif_pos c, hd, Nat.mod_eq_of_lt c]
      rw [hR]
      clear hd hdn hR c hk hn
      go_enter Tryz.func35, Tryz.ntmps35
      go_wp2
      go_ret
      exact ⟨rfl, (Below.refl _ _).alloc (Nat.le_refl _) _⟩
    · have c1 : (10 : Int) ≤ ((n : Nat) : Int) := by omega
      have hR : Lib.decDigits n = Lib.decDigits (n / 10) ++ [d] := by
        rw [Lib.decDigits, dif_neg c, hd]
      rw [hR]
      have w3 : IntKind.u64.wrap ((n / 10 : Nat) : Int) = ((n / 10 : Nat) : Int) := by
        rw [IntKind.wrap_u64]
        omega
      have ih := fun w => rdigits_any k (n / 10) (by omega) (by omega) w
      have l1 := (decDigits_len (n / 10)).2 (by omega)
      obtain ⟨D, hDD⟩ : ∃ D, D = Lib.decDigits (n / 10) := ⟨_, rfl⟩
      rw [← hDD] at ih l1 ⊢
      obtain ⟨BD, hBD⟩ : ∃ z : ByteArray, z = ⟨D.toArray⟩ := ⟨_, rfl⟩
      have s1 : BD.size ≤ 20 := by
        rw [hBD, ba_size]
        exact l1
      obtain ⟨B1, hB1⟩ : ∃ z : ByteArray, z = ⟨[d].toArray⟩ := ⟨_, rfl⟩
      have s2 : B1.size ≤ 1 := by
        rw [hB1, ba_size]
        exact Nat.le_refl _
      have HV : Hid (BD ++ B1 = ⟨(D ++ [d]).toArray⟩) := by
        show BD ++ B1 = ⟨(D ++ [d]).toArray⟩
        rw [hBD, hB1, ba_app]
      rw [← hBD] at ih
      rw [← hB1] at hcv
      obtain ⟨m, hm⟩ : ∃ m : Int, m = ((n / 10 : Nat) : Int) := ⟨_, rfl⟩
      rw [← hm] at q ih w3
      clear hd hdn hR c hk hn hBD hB1 hDD l1 hm
      go_enter Tryz.func35, Tryz.ntmps35
      go_wp2_with (go_at_call 35; go_loud (with_reducible refine (ih _).mono ?_; rintro _ _ ⟨rfl, hb⟩; have HB := Lib.hid (grow_trans ((Below.refl w.heap.size w).alloc (Nat.le_refl _) _) hb); clear hb))
      go_ret
      exact ⟨by rw [← HV.out]; rfl, HB.out⟩

theorem odd_part : ∀ (n m : Nat), m < n → 0 < m → ∃ o t, m = o * 2 ^ t ∧ o % 2 = 1
  | 0, m, h, _ => absurd h (Nat.not_lt_zero _)
  | n + 1, m, h, h0 => by
    by_cases c : m % 2 = 1
    · exact ⟨m, 0, by simp, c⟩
    · obtain ⟨o, t, h1, h2⟩ := odd_part n (m / 2) (by omega) (by omega)
      refine ⟨o, t + 1, ?_, h2⟩
      rw [Nat.pow_succ, ← Nat.mul_assoc, ← h1]
      omega
theorem half_step (o t j : Nat) (h : j < t) : o * 2 ^ (t - j) = 2 * (o * 2 ^ (t - (j + 1))) := by
  rw [show t - j = (t - (j + 1)) + 1 from by omega, Nat.pow_succ, ← Nat.mul_assoc, Nat.mul_comm 2]
theorem and_one_small (x : Nat) (h : x < 18446744073709551616) : bits .and .u64 ((x : Nat) : Int) 1 = ((x % 2 : Nat) : Int) := by
  have h1 : bits .and .u64 ((x : Nat) : Int) ((1 : Nat) : Int) = ((x &&& 1 : Nat) : Int) := u64_and_nat x 1 h (by decide)
  rw [Nat.and_one_is_mod] at h1
  exact h1
set_option maxHeartbeats 4000000 in
set_option maxRecDepth 100000 in
theorem rtext_any {a : Nat} (ha : a < 2 * signB) (w : World) : Calls Tryz.prog 73 #[.int .u64 (a : Nat)] w fun e w' => e = .returned (.string ⟨(ftext a).toArray⟩) ∧ Below w.heap.size w w' := by
  have hG := Lib.hid (Below.refl w.heap.size w)
  have kn := told_grew (risnan_any ha)
  have ka := told_grew (takes_any ha)
  have fX : bits .andNot .u64 ((a : Nat) : Int) 9223372036854775808 = ((a % 9223372036854775808 : Nat) : Int) := andNot_sign a (by unfold signB at ha; omega)
  have fS : bits .and .u64 ((a : Nat) : Int) 9223372036854775808 = if 9223372036854775808 ≤ a then 9223372036854775808 else 0 := and_sign ha
  have hF : ftext a = if isN a then [110, 97, 110] else (if 9223372036854775808 ≤ a then [45] else []) ++ (if a % signB = infB then [105, 110, 102] else if a % signB = 0 then [48] else Lib.decDigits (oddM (a % signB)) ++ 112 :: Lib.itoa (oddE (a % signB))) := rfl
  have hni := isN_iff a
  obtain ⟨L, hL⟩ : ∃ L, L = ftext a := ⟨_, rfl⟩
  rw [← hL] at hF ⊢
  clear hL
  obtain ⟨x, hx⟩ : ∃ x, x = a % signB := ⟨_, rfl⟩
  rw [← hx] at ka hF hni
  unfold signB at hx
  rw [← hx] at fX
  clear hx
  have I0 : infB = 9218868437227405312 := rfl
  rw [I0] at hF hni
  obtain ⟨N, hN⟩ : ∃ N, N = isN a := ⟨_, rfl⟩
  rw [← hN] at kn hF hni
  clear hN
  obtain ⟨X, hX⟩ : ∃ X : Int, X = ((x : Nat) : Int) := ⟨_, rfl⟩
  rw [← hX] at fX
  cases N with
  | true =>
    rw [if_pos rfl] at hF
    clear fX fS ka hni hX I0
    go_enter Tryz.func73, Tryz.ntmps73
    go_wp2_with (first | (go_at_call 93; with_reducible (refine (kn _).mono ?_); rintro _ _ ⟨rfl, hb⟩; replace hG := Lib.hid (grow_trans hG.out hb); clear hb) | (go_at_call 103; with_reducible (refine (ka _).mono ?_); rintro _ _ ⟨rfl, hb⟩; replace hG := Lib.hid (grow_trans hG.out hb); clear hb))
    go_ret
    exact ⟨by rw [hF]; rfl, hG.out⟩
  | false =>
    rw [if_neg (by decide)] at hF
    have hxi : x ≤ 9218868437227405312 := Nat.le_of_not_lt fun h => nomatch hni.2 h
    clear hni

    by_cases cs : 9223372036854775808 ≤ a
    · rw [if_pos cs] at hF fS
      by_cases c1 : x = 9218868437227405312
      · rw [if_pos c1] at hF
        have t1 : X = 9218868437227405312 := by omega
        rw [t1] at fX
        clear hX I0 c1 t1 cs ha hxi
        go_enter Tryz.func73, Tryz.ntmps73
        go_wp2_with (first | (go_at_call 93; with_reducible (refine (kn _).mono ?_); rintro _ _ ⟨rfl, hb⟩; replace hG := Lib.hid (grow_trans hG.out hb); clear hb) | (go_at_call 103; with_reducible (refine (ka _).mono ?_); rintro _ _ ⟨rfl, hb⟩; replace hG := Lib.hid (grow_trans hG.out hb); clear hb))
        go_ret
        exact ⟨by rw [hF]; rfl, hG.out⟩
      rw [if_neg c1] at hF
      have t1 : (X == 9218868437227405312) = false := beq_eq_false_iff_ne.2 (by omega)
      by_cases c2 : x = 0
      · rw [if_pos c2] at hF
        have hm : takenM x = 0 := (takenM_zero x).2 c2
        rw [hm, show ((0 : Nat) : Int) = 0 from rfl] at ka
        obtain ⟨e, he⟩ : ∃ e, e = takenE x := ⟨_, rfl⟩
        rw [← he] at ka
        clear hX I0 c1 c2 cs ha hxi he hm
        go_enter Tryz.func73, Tryz.ntmps73
        go_wp2_with (first | (go_at_call 93; with_reducible (refine (kn _).mono ?_); rintro _ _ ⟨rfl, hb⟩; replace hG := Lib.hid (grow_trans hG.out hb); clear hb) | (go_at_call 103; with_reducible (refine (ka _).mono ?_); rintro _ _ ⟨rfl, hb⟩; replace hG := Lib.hid (grow_trans hG.out hb); clear hb))
        go_ret
        exact ⟨by rw [hF]; rfl, hG.out⟩
      rw [if_neg c2] at hF
      have hxi2 : x < infB := by omega
      have hm1 := @taken_lt x
      have hm0 := takenM_pos c2
      have he0 := takenE_ge x
      have he1 := takenE_le hxi2
      obtain ⟨q1, q2, q3⟩ := odd_split c2
      have hE : oddE x = takenE x + (Lib.ctz 64 (takenM x) : Int) := rfl
      obtain ⟨m, hm⟩ : ∃ m, m = takenM x := ⟨_, rfl⟩
      obtain ⟨e, he⟩ : ∃ e, e = takenE x := ⟨_, rfl⟩
      obtain ⟨od, hod⟩ : ∃ e, e = oddM x := ⟨_, rfl⟩
      obtain ⟨E, hEE⟩ : ∃ e, e = oddE x := ⟨_, rfl⟩
      rw [← hm] at ka hm1 hm0 q1 q3 hE
      rw [← he] at ka he0 he1 hE
      rw [← hod] at q1 q2 hF
      rw [← hEE] at hE hF
      obtain ⟨t, ht⟩ : ∃ t, t = Lib.ctz 64 m := ⟨_, rfl⟩
      rw [← ht] at q1 q3 hE
      have hodm : od ≤ m := by
        rw [q1]
        exact Nat.le_mul_of_pos_right _ (Nat.pow_pos (by decide))
      have hz : (((m : Nat) : Int) == 0) = false := beq_eq_false_iff_ne.2 (by omega)
      have HM := Lib.hid q1
      have HF := Lib.hid hF
      clear hX I0 c1 c2 cs ha hxi hxi2 hm he hod hEE ht q1 hF
      go_enter Tryz.func73, Tryz.ntmps73
      go_wp2_with (first | (go_at_call 93; with_reducible (refine (kn _).mono ?_); rintro _ _ ⟨rfl, hb⟩; replace hG := Lib.hid (grow_trans hG.out hb); clear hb) | (go_at_call 103; with_reducible (refine (ka _).mono ?_); rintro _ _ ⟨rfl, hb⟩; replace hG := Lib.hid (grow_trans hG.out hb); clear hb))
      have HG := hG
      clear hG
      go_loopw [4, 5] (fun v5 v6 wr => ∃ j : Nat, v5 = .int .u64 ((od * 2 ^ (t - j) : Nat) : Int) ∧ v6 = .int .i64 (e + ((j : Nat) : Int)) ∧ j ≤ t ∧ Hid (Below w.heap.size w wr)) (fun _ v _ => (3000 - intOf v).toNat)
      case atStart => exact ⟨0, by rw [Nat.sub_zero, ← HM.out], by simp, Nat.zero_le _, HG⟩
      case round =>
        obtain ⟨j, rfl, rfl, hj, HB⟩ := hrel
        have w6 : IntKind.i64.wrap (e + ((j : Nat) : Int) + 1) = e + ((j : Nat) : Int) + 1 := by
          rw [IntKind.wrap_i64]
          omega
        by_cases c : j < t
        · have hst := half_step od t j c
          have hle : od * 2 ^ (t - j) ≤ m := by
            rw [HM.out]
            exact Nat.mul_le_mul_left _ (Nat.pow_le_pow_right (by decide) (by omega))
          obtain ⟨y, hy⟩ : ∃ y, y = od * 2 ^ (t - (j + 1)) := ⟨_, rfl⟩
          rw [← hy] at hst
          rw [hst] at hle ⊢
          have ha1 := and_one_small (2 * y) (by omega)
          rw [show 2 * y % 2 = 0 from by omega] at ha1
          have hh : ((2 * y : Nat) : Int) / 2 = ((y : Nat) : Int) := by omega
          obtain ⟨Z, hZ⟩ : ∃ Z : Int, Z = ((2 * y : Nat) : Int) := ⟨_, rfl⟩
          rw [← hZ] at ha1 hh ⊢
          have HY := Lib.hid hy
          clear hst hle hy hZ
          go_wp2
          refine ⟨⟨j + 1, by rw [← HY.out], by rw [Int.natCast_add, Int.natCast_one, Int.add_assoc], by omega, HB⟩, by simp [intOf]; omega⟩
        · have hjt : j = t := by omega
          subst hjt
          rw [Nat.sub_self, Nat.pow_zero, Nat.mul_one]
          have ha1 := and_one_small od (by omega)
          rw [q2] at ha1
          rw [← hE]
          have kd := fun w => rdigits_any (od + 1) od (by omega) (by omega) w
          have l1 := (decDigits_len od).2 (by omega)
          obtain ⟨DM, hDM⟩ : ∃ D, D = Lib.decDigits od := ⟨_, rfl⟩
          rw [← hDM] at kd l1
          have hF := HF.out
          rw [← hDM] at hF
          obtain ⟨BM, hBM⟩ : ∃ z : ByteArray, z = ⟨DM.toArray⟩ := ⟨_, rfl⟩
          have s1 : BM.size ≤ 20 := by
            rw [hBM, ba_size]
            exact l1
          rw [← hBM] at kd
          have hG := HB
          by_cases k1 : E < 0
          · have ke := fun w => rdigits_any (E.natAbs + 1) E.natAbs (by omega) (by omega) w
            have l2 := (decDigits_len E.natAbs).2 (by omega)
            obtain ⟨DE, hDE⟩ : ∃ D, D = Lib.decDigits E.natAbs := ⟨_, rfl⟩
            rw [← hDE] at ke l2
            have hI : Lib.itoa E = 45 :: DE := by
              unfold Lib.itoa
              rw [if_pos k1, hDE]
            rw [hI] at hF
            obtain ⟨BE, hBE⟩ : ∃ z : ByteArray, z = ⟨DE.toArray⟩ := ⟨_, rfl⟩
            have s2 : BE.size ≤ 20 := by
              rw [hBE, ba_size]
              exact l2
            rw [← hBE] at ke
            have HV : Hid ((({ data := #[45] } : ByteArray) ++ BM ++ { data := #[112, 45] }) ++ BE = ⟨L.toArray⟩) := by
              show (({ data := #[45] } : ByteArray) ++ BM ++ { data := #[112, 45] }) ++ BE = ⟨L.toArray⟩
              rw [hF, hBM, hBE]
              apply ByteArray.ext
              simp
            have w7 : IntKind.i64.wrap (-E) = -E := by
              rw [IntKind.wrap_i64]
              omega
            have w8 : IntKind.u64.wrap (-E) = ((E.natAbs : Nat) : Int) := by
              rw [IntKind.wrap_u64]
              omega
            obtain ⟨na, hna⟩ : ∃ n, n = E.natAbs := ⟨_, rfl⟩
            rw [← hna] at ke w8
            clear w6 hE he0 he1 c hj HM HF hF hDM hBM hDE hBE hI l1 l2 hna q2 q3 hodm hm1 hm0 ka
            go_wp2_with (first | (go_at_call 35; first | (with_reducible (refine (kd _).mono ?_); rintro _ _ ⟨rfl, hb⟩; replace hG := Lib.hid (grow_trans hG.out hb); clear hb) | (with_reducible (refine (ke _).mono ?_); rintro _ _ ⟨rfl, hb⟩; replace hG := Lib.hid (grow_trans hG.out hb); clear hb)))
            go_ret
            exact ⟨by rw [← HV.out]; rfl, hG.out⟩
          · have ke := fun w => rdigits_any (E.toNat + 1) E.toNat (by omega) (by omega) w
            have l2 := (decDigits_len E.toNat).2 (by omega)
            obtain ⟨DE, hDE⟩ : ∃ D, D = Lib.decDigits E.toNat := ⟨_, rfl⟩
            rw [← hDE] at ke l2
            have hI : Lib.itoa E = DE := by
              unfold Lib.itoa
              rw [if_neg k1, hDE]
            rw [hI] at hF
            obtain ⟨BE, hBE⟩ : ∃ z : ByteArray, z = ⟨DE.toArray⟩ := ⟨_, rfl⟩
            have s2 : BE.size ≤ 20 := by
              rw [hBE, ba_size]
              exact l2
            rw [← hBE] at ke
            have HV : Hid ((({ data := #[45] } : ByteArray) ++ BM ++ { data := #[112] }) ++ BE = ⟨L.toArray⟩) := by
              show (({ data := #[45] } : ByteArray) ++ BM ++ { data := #[112] }) ++ BE = ⟨L.toArray⟩
              rw [hF, hBM, hBE]
              apply ByteArray.ext
              simp
            have w8 : IntKind.u64.wrap E = ((E.toNat : Nat) : Int) := by
              rw [IntKind.wrap_u64]
              omega
            obtain ⟨na, hna⟩ : ∃ n, n = E.toNat := ⟨_, rfl⟩
            rw [← hna] at ke w8
            clear w6 hE he0 he1 c hj HM HF hF hDM hBM hDE hBE hI l1 l2 hna q2 q3 hodm hm1 hm0 ka
            go_wp2_with (first | (go_at_call 35; first | (with_reducible (refine (kd _).mono ?_); rintro _ _ ⟨rfl, hb⟩; replace hG := Lib.hid (grow_trans hG.out hb); clear hb) | (with_reducible (refine (ke _).mono ?_); rintro _ _ ⟨rfl, hb⟩; replace hG := Lib.hid (grow_trans hG.out hb); clear hb)))
            go_ret
            exact ⟨by rw [← HV.out]; rfl, hG.out⟩
    · rw [if_neg cs] at hF fS
      by_cases c1 : x = 9218868437227405312
      · rw [if_pos c1] at hF
        have t1 : X = 9218868437227405312 := by omega
        rw [t1] at fX
        clear hX I0 c1 t1 cs ha hxi
        go_enter Tryz.func73, Tryz.ntmps73
        go_wp2_with (first | (go_at_call 93; with_reducible (refine (kn _).mono ?_); rintro _ _ ⟨rfl, hb⟩; replace hG := Lib.hid (grow_trans hG.out hb); clear hb) | (go_at_call 103; with_reducible (refine (ka _).mono ?_); rintro _ _ ⟨rfl, hb⟩; replace hG := Lib.hid (grow_trans hG.out hb); clear hb))
        go_ret
        exact ⟨by rw [hF]; rfl, hG.out⟩
      rw [if_neg c1] at hF
      have t1 : (X == 9218868437227405312) = false := beq_eq_false_iff_ne.2 (by omega)
      by_cases c2 : x = 0
      · rw [if_pos c2] at hF
        have hm : takenM x = 0 := (takenM_zero x).2 c2
        rw [hm, show ((0 : Nat) : Int) = 0 from rfl] at ka
        obtain ⟨e, he⟩ : ∃ e, e = takenE x := ⟨_, rfl⟩
        rw [← he] at ka
        clear hX I0 c1 c2 cs ha hxi he hm
        go_enter Tryz.func73, Tryz.ntmps73
        go_wp2_with (first | (go_at_call 93; with_reducible (refine (kn _).mono ?_); rintro _ _ ⟨rfl, hb⟩; replace hG := Lib.hid (grow_trans hG.out hb); clear hb) | (go_at_call 103; with_reducible (refine (ka _).mono ?_); rintro _ _ ⟨rfl, hb⟩; replace hG := Lib.hid (grow_trans hG.out hb); clear hb))
        go_ret
        exact ⟨by rw [hF]; rfl, hG.out⟩
      rw [if_neg c2] at hF
      have hxi2 : x < infB := by omega
      have hm1 := @taken_lt x
      have hm0 := takenM_pos c2
      have he0 := takenE_ge x
      have he1 := takenE_le hxi2
      obtain ⟨q1, q2, q3⟩ := odd_split c2
      have hE : oddE x = takenE x + (Lib.ctz 64 (takenM x) : Int) := rfl
      obtain ⟨m, hm⟩ : ∃ m, m = takenM x := ⟨_, rfl⟩
      obtain ⟨e, he⟩ : ∃ e, e = takenE x := ⟨_, rfl⟩
      obtain ⟨od, hod⟩ : ∃ e, e = oddM x := ⟨_, rfl⟩
      obtain ⟨E, hEE⟩ : ∃ e, e = oddE x := ⟨_, rfl⟩
      rw [← hm] at ka hm1 hm0 q1 q3 hE
      rw [← he] at ka he0 he1 hE
      rw [← hod] at q1 q2 hF
      rw [← hEE] at hE hF
      obtain ⟨t, ht⟩ : ∃ t, t = Lib.ctz 64 m := ⟨_, rfl⟩
      rw [← ht] at q1 q3 hE
      have hodm : od ≤ m := by
        rw [q1]
        exact Nat.le_mul_of_pos_right _ (Nat.pow_pos (by decide))
      have hz : (((m : Nat) : Int) == 0) = false := beq_eq_false_iff_ne.2 (by omega)
      have HM := Lib.hid q1
      have HF := Lib.hid hF
      clear hX I0 c1 c2 cs ha hxi hxi2 hm he hod hEE ht q1 hF
      go_enter Tryz.func73, Tryz.ntmps73
      go_wp2_with (first | (go_at_call 93; with_reducible (refine (kn _).mono ?_); rintro _ _ ⟨rfl, hb⟩; replace hG := Lib.hid (grow_trans hG.out hb); clear hb) | (go_at_call 103; with_reducible (refine (ka _).mono ?_); rintro _ _ ⟨rfl, hb⟩; replace hG := Lib.hid (grow_trans hG.out hb); clear hb))
      have HG := hG
      clear hG
      go_loopw [4, 5] (fun v5 v6 wr => ∃ j : Nat, v5 = .int .u64 ((od * 2 ^ (t - j) : Nat) : Int) ∧ v6 = .int .i64 (e + ((j : Nat) : Int)) ∧ j ≤ t ∧ Hid (Below w.heap.size w wr)) (fun _ v _ => (3000 - intOf v).toNat)
      case atStart => exact ⟨0, by rw [Nat.sub_zero, ← HM.out], by simp, Nat.zero_le _, HG⟩
      case round =>
        obtain ⟨j, rfl, rfl, hj, HB⟩ := hrel
        have w6 : IntKind.i64.wrap (e + ((j : Nat) : Int) + 1) = e + ((j : Nat) : Int) + 1 := by
          rw [IntKind.wrap_i64]
          omega
        by_cases c : j < t
        · have hst := half_step od t j c
          have hle : od * 2 ^ (t - j) ≤ m := by
            rw [HM.out]
            exact Nat.mul_le_mul_left _ (Nat.pow_le_pow_right (by decide) (by omega))
          obtain ⟨y, hy⟩ : ∃ y, y = od * 2 ^ (t - (j + 1)) := ⟨_, rfl⟩
          rw [← hy] at hst
          rw [hst] at hle ⊢
          have ha1 := and_one_small (2 * y) (by omega)
          rw [show 2 * y % 2 = 0 from by omega] at ha1
          have hh : ((2 * y : Nat) : Int) / 2 = ((y : Nat) : Int) := by omega
          obtain ⟨Z, hZ⟩ : ∃ Z : Int, Z = ((2 * y : Nat) : Int) := ⟨_, rfl⟩
          rw [← hZ] at ha1 hh ⊢
          have HY := Lib.hid hy
          clear hst hle hy hZ
          go_wp2
          refine ⟨⟨j + 1, by rw [← HY.out], by rw [Int.natCast_add, Int.natCast_one, Int.add_assoc], by omega, HB⟩, by simp [intOf]; omega⟩
        · have hjt : j = t := by omega
          subst hjt
          rw [Nat.sub_self, Nat.pow_zero, Nat.mul_one]
          have ha1 := and_one_small od (by omega)
          rw [q2] at ha1
          rw [← hE]
          have kd := fun w => rdigits_any (od + 1) od (by omega) (by omega) w
          have l1 := (decDigits_len od).2 (by omega)
          obtain ⟨DM, hDM⟩ : ∃ D, D = Lib.decDigits od := ⟨_, rfl⟩
          rw [← hDM] at kd l1
          have hF := HF.out
          rw [← hDM] at hF
          obtain ⟨BM, hBM⟩ : ∃ z : ByteArray, z = ⟨DM.toArray⟩ := ⟨_, rfl⟩
          have s1 : BM.size ≤ 20 := by
            rw [hBM, ba_size]
            exact l1
          rw [← hBM] at kd
          have hG := HB
          by_cases k1 : E < 0
          · have ke := fun w => rdigits_any (E.natAbs + 1) E.natAbs (by omega) (by omega) w
            have l2 := (decDigits_len E.natAbs).2 (by omega)
            obtain ⟨DE, hDE⟩ : ∃ D, D = Lib.decDigits E.natAbs := ⟨_, rfl⟩
            rw [← hDE] at ke l2
            have hI : Lib.itoa E = 45 :: DE := by
              unfold Lib.itoa
              rw [if_pos k1, hDE]
            rw [hI] at hF
            obtain ⟨BE, hBE⟩ : ∃ z : ByteArray, z = ⟨DE.toArray⟩ := ⟨_, rfl⟩
            have s2 : BE.size ≤ 20 := by
              rw [hBE, ba_size]
              exact l2
            rw [← hBE] at ke
            have HV : Hid ((({ data := #[] } : ByteArray) ++ BM ++ { data := #[112, 45] }) ++ BE = ⟨L.toArray⟩) := by
              show (({ data := #[] } : ByteArray) ++ BM ++ { data := #[112, 45] }) ++ BE = ⟨L.toArray⟩
              rw [hF, hBM, hBE]
              apply ByteArray.ext
              simp
            have w7 : IntKind.i64.wrap (-E) = -E := by
              rw [IntKind.wrap_i64]
              omega
            have w8 : IntKind.u64.wrap (-E) = ((E.natAbs : Nat) : Int) := by
              rw [IntKind.wrap_u64]
              omega
            obtain ⟨na, hna⟩ : ∃ n, n = E.natAbs := ⟨_, rfl⟩
            rw [← hna] at ke w8
            clear w6 hE he0 he1 c hj HM HF hF hDM hBM hDE hBE hI l1 l2 hna q2 q3 hodm hm1 hm0 ka
            go_wp2_with (first | (go_at_call 35; first | (with_reducible (refine (kd _).mono ?_); rintro _ _ ⟨rfl, hb⟩; replace hG := Lib.hid (grow_trans hG.out hb); clear hb) | (with_reducible (refine (ke _).mono ?_); rintro _ _ ⟨rfl, hb⟩; replace hG := Lib.hid (grow_trans hG.out hb); clear hb)))
            go_ret
            exact ⟨by rw [← HV.out]; rfl, hG.out⟩
          · have ke := fun w => rdigits_any (E.toNat + 1) E.toNat (by omega) (by omega) w
            have l2 := (decDigits_len E.toNat).2 (by omega)
            obtain ⟨DE, hDE⟩ : ∃ D, D = Lib.decDigits E.toNat := ⟨_, rfl⟩
            rw [← hDE] at ke l2
            have hI : Lib.itoa E = DE := by
              unfold Lib.itoa
              rw [if_neg k1, hDE]
            rw [hI] at hF
            obtain ⟨BE, hBE⟩ : ∃ z : ByteArray, z = ⟨DE.toArray⟩ := ⟨_, rfl⟩
            have s2 : BE.size ≤ 20 := by
              rw [hBE, ba_size]
              exact l2
            rw [← hBE] at ke
            have HV : Hid ((({ data := #[] } : ByteArray) ++ BM ++ { data := #[112] }) ++ BE = ⟨L.toArray⟩) := by
              show (({ data := #[] } : ByteArray) ++ BM ++ { data := #[112] }) ++ BE = ⟨L.toArray⟩
              rw [hF, hBM, hBE]
              apply ByteArray.ext
              simp
            have w8 : IntKind.u64.wrap E = ((E.toNat : Nat) : Int) := by
              rw [IntKind.wrap_u64]
              omega
            obtain ⟨na, hna⟩ : ∃ n, n = E.toNat := ⟨_, rfl⟩
            rw [← hna] at ke w8
            clear w6 hE he0 he1 c hj HM HF hF hDM hBM hDE hBE hI l1 l2 hna q2 q3 hodm hm1 hm0 ka
            go_wp2_with (first | (go_at_call 35; first | (with_reducible (refine (kd _).mono ?_); rintro _ _ ⟨rfl, hb⟩; replace hG := Lib.hid (grow_trans hG.out hb); clear hb) | (with_reducible (refine (ke _).mono ?_); rintro _ _ ⟨rfl, hb⟩; replace hG := Lib.hid (grow_trans hG.out hb); clear hb)))
            go_ret
            exact ⟨by rw [← HV.out]; rfl, hG.out⟩
end Go.Proofs.YtiidkgdlngcpgaaGreatDoor
