/- The text of a number: Frexp, Ldexp, FormatUint, package num's Text (contracts). -/
import Derived.Test.YtdkencepmdfacaaGreatDoorGr7
import Derived.Test.YtdkencepmdfacaaGreatDoorFl
import Derived.Shelf.Strconv.Itoa3
import Derived.Shelf.Spec.TrailingZeros
import Derived.Lib.ItoaMem
import Derived.Deep.DeepCutAuto
set_option maxRecDepth 100000
namespace Go.Proofs.YtdkencepmdfacaaGreatDoor
open Go.RowKit Ieee

theorem lt_sign {r : Nat} (h : r < infB) : r < signB := by
  unfold infB at h
  unfold signB
  omega
theorem fcan_eq {v r : Nat} (h : fcan v = r) (hr : r ≠ nanB) : v = r := by
  unfold fcan at h
  split at h
  · exact absurd h.symm hr
  · exact h
theorem inf_ne_nan {r : Nat} (h : r ≤ infB) : r ≠ nanB := by
  unfold infB at h
  unfold nanB
  omega
theorem isinf_any {a : Nat} (ha : a < 2 * signB) (w : World) : Calls Tryz.prog 104 #[.float .f64 a, .int .i64 0] w fun e w' => e = .returned (.bool (decide (a % signB = infB))) ∧ w = w' := by
  have km := fun w => mabs_any ha w
  have t := gt_max (b := a % signB) (Nat.mod_lt _ (by decide))
  obtain ⟨b, hb⟩ : ∃ b, b = decide (a % signB = infB) := ⟨_, rfl⟩
  rw [← hb] at t ⊢
  have t2 : (FloatKind.f64.format.order (a % signB) 9218868437227405311 == some .gt) = b := t
  clear hb t
  obtain ⟨x, hx⟩ : ∃ x, x = a % signB := ⟨_, rfl⟩
  rw [← hx] at km t2
  clear hx ha
  go_enter Tryz.func104, Tryz.ntmps104
  go_wp2_with (go_at_call 106; refine (km _).mono ?_; rintro _ _ ⟨rfl, rfl⟩)
  go_ret
  exact ⟨by first | rfl | simp [t2], rfl⟩
theorem sbit_any {a : Nat} (ha : a < 2 * signB) (w : World) : Calls Tryz.prog 102 #[.float .f64 a] w fun e w' => e = .returned (.bool (decide (signB ≤ a))) ∧ w = w' := by
  have hb := bits_run
  have h3 : IntKind.i64.wrap ((a : Nat) : Int) = if 9223372036854775808 ≤ a then (a : Int) - 18446744073709551616 else (a : Int) := by
    rw [IntKind.wrap_i64]
    unfold signB at ha
    split <;> omega
  unfold signB at ha ⊢
  by_cases d : 9223372036854775808 ≤ a
  · rw [if_pos d] at h3
    rw [decide_eq_true d]
    have s1 : ((a : Nat) : Int) - 18446744073709551616 < 0 := by omega
    clear d
    go_enter Tryz.func102, Tryz.ntmps102
    go_wp2
    go_ret
    exact ⟨by first | rfl | simp, rfl⟩
  · rw [if_neg d] at h3
    rw [decide_eq_false d]
    have s1 : ¬ ((a : Nat) : Int) < 0 := by omega
    clear d
    go_enter Tryz.func102, Tryz.ntmps102
    go_wp2
    go_ret
    exact ⟨by first | rfl | simp, rfl⟩

theorem normalize_any {r : Nat} (h0 : r ≠ 0) (h1 : r < infB) (w : World) : Calls Tryz.prog 175 #[.float .f64 r] w fun e w' => e = .returned (.tuple #[.float .f64 (nrm r), .int .i64 (if r < 4503599627370496 then -52 else 0)]) ∧ ∃ n, w' = w.drewN n := by
  have km := fun w => mabs_any (a := r) (by have := lt_sign h1; unfold signB at *; omega) w
  rw [Nat.mod_eq_of_lt (lt_sign h1)] at km
  have tl : (FloatKind.f64.format.order r 4503599627370496 == some .lt) = decide (r < 4503599627370496) := lt_tiny (lt_sign h1)
  by_cases c : r < 4503599627370496
  · rw [if_pos c]
    rw [decide_eq_true c] at tl
    obtain ⟨v, n, hv, hf, hr⟩ := mul_run (P := Tryz.prog) w 138 r 4841369599423283200
    rw [nrm_mul h0 c] at hf
    have hvn := fcan_eq hf (inf_ne_nan (Nat.le_of_lt ((nrm_bits h0).2.2.1 h1)))
    rw [hvn] at hr
    obtain ⟨V, hV⟩ : ∃ V, V = nrm r := ⟨_, rfl⟩
    rw [← hV] at hr ⊢
    clear hV hvn hf hv c h0 h1
    go_enter Tryz.func175, Tryz.ntmps175
    go_wp2_with (go_at_call 106; refine (km _).mono ?_; rintro _ _ ⟨rfl, rfl⟩)
    go_ret2
    exact ⟨rfl, _, rfl⟩
  · rw [if_neg c]
    rw [decide_eq_false c] at tl
    have hV : nrm r = r := by
      unfold nrm
      rw [if_neg c]
    rw [hV]
    clear hV c h0 h1
    go_enter Tryz.func175, Tryz.ntmps175
    go_wp2_with (go_at_call 106; refine (km _).mono ?_; rintro _ _ ⟨rfl, rfl⟩)
    go_ret2
    exact ⟨rfl, 0, rfl⟩

theorem exp_bits {a : Nat} (ha : a < 9218868437227405312) : bits .and .u64 (((a : Nat) : Int) / 4503599627370496) 2047 = ((a / 4503599627370496 : Nat) : Int) := by
  have h := u64_and_nat (a / 4503599627370496) 2047 (by omega) (by decide)
  rw [show a / 4503599627370496 &&& 2047 = a / 4503599627370496 % 2048 from Nat.and_two_pow_sub_one_eq_mod _ 11, Nat.mod_eq_of_lt (by omega)] at h
  exact h
theorem i64_and2047 (n : Int) : bits .and .i64 n 2047 = n % 2048 := by
  have h127 : (BitVec.ofInt 64 2047).toNat = 2 ^ 11 - 1 := by decide
  have key : (BitVec.ofInt 64 n &&& BitVec.ofInt 64 2047).toNat = (n % ((2 ^ 64 : Nat) : Int)).toNat % 2 ^ 11 := by
    rw [BitVec.toNat_and, BitVec.toNat_ofInt, h127, Nat.and_two_pow_sub_one_eq_mod]
  show IntKind.i64.wrap ((BitVec.ofInt 64 n &&& BitVec.ofInt 64 2047).toNat : Nat) = n % 2048
  rw [key, IntKind.wrap_i64]
  omega
theorem frac_bits {a : Nat} (ha : a < 9223372036854775808) : bits .andNot .u64 ((a : Nat) : Int) 9218868437227405312 = ((a % 4503599627370496 : Nat) : Int) := by
  have h := u64_andNot_nat a 9218868437227405312 (by omega) (by decide)
  have e : a &&& (18446744073709551615 - 9218868437227405312) = a % 4503599627370496 := by
    have h1 : a &&& (18446744073709551615 - 9218868437227405312) < 2 ^ 63 := Nat.lt_of_le_of_lt Nat.and_le_left ha
    rw [← Nat.mod_eq_of_lt h1, Nat.and_mod_two_pow, Nat.mod_eq_of_lt ha, show (18446744073709551615 - 9218868437227405312) % 2 ^ 63 = 2 ^ 52 - 1 by decide, Nat.and_two_pow_sub_one_eq_mod]
  rw [e] at h
  exact h
theorem set_exp {f k : Nat} (hf : f < 4503599627370496) (hk : k < 2048) : bits .or .u64 ((f : Nat) : Int) ((k * 4503599627370496 : Nat) : Int) = ((k * 4503599627370496 + f : Nat) : Int) := by
  have h := u64_or_nat f (k * 4503599627370496) (by omega) (by omega)
  rw [Nat.or_comm, nat_join 52 (k * 4503599627370496) f (by omega) hf] at h
  exact h

set_option maxHeartbeats 2000000 in
theorem frexp_in {r : Nat} (h0 : r ≠ 0) (h1 : r < infB) (w : World) : Calls Tryz.prog 151 #[.float .f64 r] w fun e w' => e = .returned (.tuple #[.float .f64 (4598175219545276416 + mant r), .int .i64 (takenE r + ((takenM r).log2 : Int) + 1)]) ∧ ∃ n, w' = w.drewN n := by
  have hs := lt_sign h1
  have h2s : r < 2 * signB := by unfold signB at *; omega
  have ki := fun w => isinf_any h2s w
  have kn := fun w => isnan_any r w
  have kz : (FloatKind.f64.format.order r 0 == some .eq) = false := by
    have h := eq_zero h2s
    rw [Nat.mod_eq_of_lt hs, decide_eq_false h0] at h
    exact h
  rw [Nat.mod_eq_of_lt hs, decide_eq_false (show ¬ r = infB by omega)] at ki
  have hs2 : r % 9223372036854775808 = r := Nat.mod_eq_of_lt hs
  rw [hs2, decide_eq_false (show ¬ 9218868437227405312 < r by unfold infB at h1; omega)] at kn
  have kz2 := fun w => normalize_any h0 h1 w
  obtain ⟨n1, n2, n3, n4⟩ := nrm_bits h0
  have hN := n3 h1
  have hmr := mant_range h0
  unfold infB at hN
  have hE := takenE_ge r
  have hE1 := takenE_le h1
  have hL := log52 h0
  obtain ⟨en, hen⟩ : ∃ en : Int, en = if r < 4503599627370496 then -52 else 0 := ⟨_, rfl⟩
  rw [← hen] at kz2 n2
  have hen2 : -52 ≤ en ∧ en ≤ 0 := by
    rw [hen]
    split <;> omega
  obtain ⟨R, hR⟩ : ∃ R, R = nrm r := ⟨_, rfl⟩
  rw [← hR] at kz2 n1 n2 hN n4
  have hb := bits_run
  have hfb := frombits_run
  have f1 := exp_bits hN
  have f2 := frac_bits (a := R) (by omega)
  have f3 : bits .or .u64 ((R % 4503599627370496 : Nat) : Int) 4602678819172646912 = ((4598175219545276416 + mant r : Nat) : Int) := by
    have h := set_exp (f := R % 4503599627370496) (k := 1022) (by omega) (by decide)
    rw [show 1022 * 4503599627370496 + R % 4503599627370496 = 4598175219545276416 + mant r by omega] at h
    exact h
  have w1 : IntKind.i64.wrap ((R / 4503599627370496 : Nat) : Int) = ((R / 4503599627370496 : Nat) : Int) := by
    rw [IntKind.wrap_i64]
    omega
  have w2 : IntKind.i64.wrap (((R / 4503599627370496 : Nat) : Int) - 1023) = ((R / 4503599627370496 : Nat) : Int) - 1023 := by
    rw [IntKind.wrap_i64]
    omega
  have w3 : IntKind.i64.wrap (((R / 4503599627370496 : Nat) : Int) - 1023 + 1) = ((R / 4503599627370496 : Nat) : Int) - 1023 + 1 := by
    rw [IntKind.wrap_i64]
    omega
  have w4 : IntKind.i64.wrap (en + (((R / 4503599627370496 : Nat) : Int) - 1023 + 1)) = takenE r + ((takenM r).log2 : Int) + 1 := by
    rw [IntKind.wrap_i64]
    omega
  obtain ⟨P1, hP1⟩ : ∃ z, z = 4598175219545276416 + mant r := ⟨_, rfl⟩
  obtain ⟨P2, hP2⟩ : ∃ z, z = takenE r + ((takenM r).log2 : Int) + 1 := ⟨_, rfl⟩
  obtain ⟨Q, hQ⟩ : ∃ z : Int, z = ((R / 4503599627370496 : Nat) : Int) := ⟨_, rfl⟩
  obtain ⟨F, hF⟩ : ∃ z : Int, z = ((R % 4503599627370496 : Nat) : Int) := ⟨_, rfl⟩
  rw [← hP1] at f3 ⊢
  rw [← hP2] at w4 ⊢
  rw [← hQ] at f1 w1 w2 w3 w4
  rw [← hF] at f2 f3
  clear hP1 hP2 hQ hF hR n1 n2 n3 n4 hN hmr hE hE1 hL hen hen2 hs hs2 h2s h0 h1
  go_enter Tryz.func151, Tryz.ntmps151
  go_wp2_with (first | (go_at_call 104; with_reducible (refine (ki _).mono ?_); rintro _ _ ⟨rfl, rfl⟩) | (go_at_call 103; with_reducible (refine (kn _).mono ?_); rintro _ _ ⟨rfl, rfl⟩) | (go_at_call 175; with_reducible (refine (kz2 _).mono ?_); rintro _ _ ⟨rfl, k0, rfl⟩))
  go_ret2
  exact ⟨by first | rfl | simp, _, rfl⟩

theorem frexp_any {r : Nat} (h0 : r ≠ 0) (h1 : r < infB) (w : World) : Calls Tryz.prog 105 #[.float .f64 r] w fun e w' => e = .returned (.tuple #[.float .f64 (4598175219545276416 + mant r), .int .i64 (takenE r + ((takenM r).log2 : Int) + 1)]) ∧ ∃ n, w' = w.drewN n := by
  have k := fun w => frexp_in h0 h1 w
  obtain ⟨V, hV⟩ : ∃ V, V = 4598175219545276416 + mant r := ⟨_, rfl⟩
  obtain ⟨E, hE⟩ : ∃ E, E = takenE r + ((takenM r).log2 : Int) + 1 := ⟨_, rfl⟩
  rw [← hV, ← hE] at k ⊢
  clear hV hE
  go_enter Tryz.func105, Tryz.ntmps105
  go_wp2_with (go_at_call 151; refine (k _).mono ?_; rintro _ _ ⟨rfl, k0, rfl⟩)
  go_ret2
  exact ⟨rfl, _, rfl⟩
theorem copysign_zero {r : Nat} (h : r < 9223372036854775808) (w : World) : Calls Tryz.prog 176 #[.float .f64 0, .float .f64 r] w fun e w' => e = .returned (.float .f64 0) ∧ w = w' := by
  have hb := bits_run
  have hfb := frombits_run
  have f1 : bits .andNot .u64 0 9223372036854775808 = 0 := by decide
  have f2 : bits .and .u64 ((r : Nat) : Int) 9223372036854775808 = 0 := by
    have h := and_sign (a := r) (by unfold signB; omega)
    rw [if_neg (by omega)] at h
    exact h
  have f3 : bits .or .u64 0 0 = 0 := by decide
  clear h
  go_enter Tryz.func176, Tryz.ntmps176
  go_wp2
  go_ret
  exact ⟨by first | rfl | simp, rfl⟩
set_option maxHeartbeats 4000000 in
theorem ldexp_in {r : Nat} {n : Int} (h52 : 4503599627370496 ≤ r) (h1 : r < infB) (hn0 : -5000 ≤ n) (hn1 : n ≤ 5000) (w : World) : Calls Tryz.prog 153 #[.float .f64 r, .int .i64 n] w fun e w' => e = .returned (.float .f64 (ldx r n)) ∧ ∃ k, w' = w.drewN k := by
  have hs := lt_sign h1
  have h2s : r < 2 * signB := by unfold signB at *; omega
  have ki := fun w => isinf_any h2s w
  have kn := fun w => isnan_any r w
  have kz : (FloatKind.f64.format.order r 0 == some .eq) = false := by
    have h := eq_zero h2s
    rw [Nat.mod_eq_of_lt hs, decide_eq_false (show ¬ r = 0 by omega)] at h
    exact h
  rw [Nat.mod_eq_of_lt hs, decide_eq_false (show ¬ r = infB by omega)] at ki
  have hs2 : r % 9223372036854775808 = r := Nat.mod_eq_of_lt hs
  rw [hs2, decide_eq_false (show ¬ 9218868437227405312 < r by unfold infB at h1; omega)] at kn
  have kz2 := fun w => normalize_any (r := r) (by omega) h1 w
  rw [if_neg (show ¬ r < 4503599627370496 by omega), show nrm r = r from (by unfold nrm; rw [if_neg (by omega)])] at kz2
  have kc := fun w => copysign_zero (r := r) (by unfold signB at hs; omega) w
  have kl : (FloatKind.f64.format.order r 0 == some .lt) = false := by
    have h := fless_val (b := 0) h2s (by decide)
    rw [fless_is] at h
    have hv : ¬ fval r < fval 0 := by
      unfold fval
      rw [if_neg (by omega), Nat.mod_eq_of_lt hs, if_neg (by decide)]
      show ¬ ((r : Nat) : Int) < 0
      omega
    rw [decide_eq_false hv, Bool.and_false] at h
    exact h
  have hr := h1
  unfold infB at hr
  obtain ⟨Xx, hX⟩ : ∃ X : Int, X = n + ((r / 4503599627370496 : Nat) : Int) - 1023 := ⟨_, rfl⟩
  have HL := ldexp_law h52 h1 hX
  have hb := bits_run
  have hfb := frombits_run
  have f1 : bits .and .i64 ((r / 4503599627370496 : Nat) : Int) 2047 = ((r / 4503599627370496 : Nat) : Int) := by
    rw [i64_and2047]
    omega
  have f0 : ((r : Nat) : Int) / 4503599627370496 = ((r / 4503599627370496 : Nat) : Int) := by omega
  have w1 : IntKind.i64.wrap ((r / 4503599627370496 : Nat) : Int) = ((r / 4503599627370496 : Nat) : Int) := by
    rw [IntKind.wrap_i64]
    omega
  have w2 : IntKind.i64.wrap (((r / 4503599627370496 : Nat) : Int) - 1023) = ((r / 4503599627370496 : Nat) : Int) - 1023 := by
    rw [IntKind.wrap_i64]
    omega
  have w3 : IntKind.i64.wrap (n + (((r / 4503599627370496 : Nat) : Int) - 1023)) = Xx := by
    rw [IntKind.wrap_i64]
    omega
  have w0 : IntKind.i64.wrap n = n := by
    rw [IntKind.wrap_i64]
    omega
  have f2 := frac_bits (a := r) (by omega)
  have hX1 : Xx ≤ 7000 := by omega
  obtain ⟨q, hq⟩ : ∃ q : Int, q = ((r / 4503599627370496 : Nat) : Int) := ⟨_, rfl⟩
  have hq0 : 0 ≤ q := by omega
  rw [← hq] at f0 f1 w1 w2 w3
  obtain ⟨F, hF⟩ : ∃ F, F = r % 4503599627370496 := ⟨_, rfl⟩
  have hF1 : F < 4503599627370496 := by omega
  rw [← hF] at f2 HL
  obtain ⟨V, hV⟩ : ∃ V, V = ldx r n := ⟨_, rfl⟩
  rw [← hV] at HL ⊢
  clear hV hF hq hX hr hs hs2 h2s h52 h1 hn0 hn1
  by_cases c1 : Xx < -1075
  · rw [if_pos c1] at HL
    have HV := Lib.hid HL
    clear HL f2 hX1
    go_enter Tryz.func153, Tryz.ntmps153
    go_wp2_with (first | (go_at_call 104; with_reducible (refine (ki _).mono ?_); rintro _ _ ⟨rfl, rfl⟩) | (go_at_call 103; with_reducible (refine (kn _).mono ?_); rintro _ _ ⟨rfl, rfl⟩) | (go_at_call 175; with_reducible (refine (kz2 _).mono ?_); rintro _ _ ⟨rfl, k0, rfl⟩) | (go_at_call 177; go_in) | (go_at_call 176; with_reducible (refine (kc _).mono ?_); rintro _ _ ⟨rfl, rfl⟩))
    go_ret
    exact ⟨by rw [HV.out]; rfl, _, rfl⟩
  rw [if_neg c1] at HL
  by_cases c2 : 1023 < Xx
  · rw [if_pos c2] at HL
    have HV := Lib.hid HL
    clear HL f2 hX1
    go_enter Tryz.func153, Tryz.ntmps153
    go_wp2_with (first | (go_at_call 104; with_reducible (refine (ki _).mono ?_); rintro _ _ ⟨rfl, rfl⟩) | (go_at_call 103; with_reducible (refine (kn _).mono ?_); rintro _ _ ⟨rfl, rfl⟩) | (go_at_call 175; with_reducible (refine (kz2 _).mono ?_); rintro _ _ ⟨rfl, k0, rfl⟩) | (go_at_call 177; go_in) | (go_at_call 176; with_reducible (refine (kc _).mono ?_); rintro _ _ ⟨rfl, rfl⟩))
    go_ret
    exact ⟨by rw [HV.out]; rfl, _, rfl⟩
  rw [if_neg c2] at HL
  by_cases c3 : Xx < -1022
  · rw [if_pos c3] at HL
    obtain ⟨g, hg⟩ : ∃ g, g = (Xx + 1076).toNat := ⟨_, rfl⟩
    rw [← hg] at HL
    have w4 : IntKind.i64.wrap (Xx + 53) = Xx + 53 := by
      rw [IntKind.wrap_i64]
      omega
    have w5 : IntKind.i64.wrap (Xx + 53 + 1023) = ((g : Nat) : Int) := by
      rw [IntKind.wrap_i64]
      omega
    have w6 : IntKind.u64.wrap ((g : Nat) : Int) = ((g : Nat) : Int) := by
      rw [IntKind.wrap_u64]
      omega
    have w7 : IntKind.u64.wrap (((g : Nat) : Int) * 4503599627370496) = ((g * 4503599627370496 : Nat) : Int) := by
      rw [IntKind.wrap_u64]
      omega
    have f3 := set_exp (f := F) (k := g) hF1 (by omega)
    obtain ⟨v, kk, hv, hvf, hrun⟩ := mul_run (P := Tryz.prog) (w.drewN 0) 138 4368491638549381120 (g * 4503599627370496 + F)
    rw [← HL] at hvf
    have hmul : ∀ W : World, ∃ k, (binOp .mul 138 (.float .f64 4368491638549381120) (.float .f64 (g * 4503599627370496 + F))).run Tryz.prog W = .ok (.float .f64 V) (W.drewN k) := fun W => by
      obtain ⟨v, kk, hv, hvf, hrun⟩ := mul_run (P := Tryz.prog) W 138 4368491638549381120 (g * 4503599627370496 + F)
      rw [← HL] at hvf
      have hVi : V ≠ nanB := by
        rw [HL, mul_taken (by decide) (by unfold infB; omega)]
        obtain ⟨rr, h1, h2⟩ := nearest_rung false (takenM 4368491638549381120 * takenM (g * 4503599627370496 + F)) (takenE 4368491638549381120 + takenE (g * 4503599627370496 + F))
        rw [h2 false, word_f]
        exact inf_ne_nan h1
      rw [fcan_eq hvf hVi] at hrun
      exact ⟨kk, hrun⟩
    obtain ⟨v0, hv0⟩ : ∃ v0, v0 = g * 4503599627370496 + F := ⟨_, rfl⟩
    obtain ⟨GH, hGH⟩ : ∃ z : Int, z = ((g * 4503599627370496 : Nat) : Int) := ⟨_, rfl⟩
    rw [← hv0] at f3 hmul
    rw [← hGH] at w7 f3
    clear hv0 hGH hvf hrun hv HL hg hX1 hF1
    go_enter Tryz.func153, Tryz.ntmps153
    go_upto_region 21 with (first | (go_at_call 104; with_reducible (refine (ki _).mono ?_); rintro _ _ ⟨rfl, rfl⟩) | (go_at_call 103; with_reducible (refine (kn _).mono ?_); rintro _ _ ⟨rfl, rfl⟩) | (go_at_call 175; with_reducible (refine (kz2 _).mono ?_); rintro _ _ ⟨rfl, k0, rfl⟩) | (go_at_call 177; go_in) | (go_at_call 176; with_reducible (refine (kc _).mono ?_); rintro _ _ ⟨rfl, rfl⟩))
    obtain ⟨wz, hwz⟩ : ∃ wz, wz = w.drewN k0 := ⟨_, rfl⟩
    rw [← hwz]
    have HWZ := Lib.hid hwz
    clear hwz
    obtain ⟨k9, hrun⟩ := hmul wz
    go_wp2
    go_ret
    exact ⟨by first | rfl | simp, by rw [HWZ.out]; exact ⟨k0 + k9, by rw [World.drewN_drewN]⟩⟩
  · rw [if_neg c3] at HL
    obtain ⟨g, hg⟩ : ∃ g, g = (Xx + 1023).toNat := ⟨_, rfl⟩
    rw [← hg] at HL
    have w5 : IntKind.i64.wrap (Xx + 1023) = ((g : Nat) : Int) := by
      rw [IntKind.wrap_i64]
      omega
    have w6 : IntKind.u64.wrap ((g : Nat) : Int) = ((g : Nat) : Int) := by
      rw [IntKind.wrap_u64]
      omega
    have w7 : IntKind.u64.wrap (((g : Nat) : Int) * 4503599627370496) = ((g * 4503599627370496 : Nat) : Int) := by
      rw [IntKind.wrap_u64]
      omega
    have f3 := set_exp (f := F) (k := g) hF1 (by omega)
    have hVi : V < infB := by
      rw [HL]
      unfold infB
      omega
    rw [← HL] at f3
    have hmul : ∀ W : World, ∃ k, (binOp .mul 138 (.float .f64 4607182418800017408) (.float .f64 V)).run Tryz.prog W = .ok (.float .f64 V) (W.drewN k) := fun W => by
      obtain ⟨v, kk, hv, hvf, hrun⟩ := mul_run (P := Tryz.prog) W 138 4607182418800017408 V
      rw [mul_one hVi (by omega)] at hvf
      rw [fcan_eq hvf (inf_ne_nan (Nat.le_of_lt hVi))] at hrun
      exact ⟨kk, hrun⟩
    obtain ⟨GH, hGH⟩ : ∃ z : Int, z = ((g * 4503599627370496 : Nat) : Int) := ⟨_, rfl⟩
    rw [← hGH] at w7 f3
    clear hGH HL hg hX1 hF1 hVi
    go_enter Tryz.func153, Tryz.ntmps153
    go_upto_region 21 with (first | (go_at_call 104; with_reducible (refine (ki _).mono ?_); rintro _ _ ⟨rfl, rfl⟩) | (go_at_call 103; with_reducible (refine (kn _).mono ?_); rintro _ _ ⟨rfl, rfl⟩) | (go_at_call 175; with_reducible (refine (kz2 _).mono ?_); rintro _ _ ⟨rfl, k0, rfl⟩) | (go_at_call 177; go_in) | (go_at_call 176; with_reducible (refine (kc _).mono ?_); rintro _ _ ⟨rfl, rfl⟩))
    obtain ⟨wz, hwz⟩ : ∃ wz, wz = w.drewN k0 := ⟨_, rfl⟩
    rw [← hwz]
    have HWZ := Lib.hid hwz
    clear hwz
    obtain ⟨k9, hrun⟩ := hmul wz
    go_wp2
    go_ret
    exact ⟨by first | rfl | simp, by rw [HWZ.out]; exact ⟨k0 + k9, by rw [World.drewN_drewN]⟩⟩

end Go.Proofs.YtdkencepmdfacaaGreatDoor
