/- num.Canon and the reference's: a number with one NaN. -/
import Derived.Test.YtpnfdmglhonkmaaPl
import Derived.WalkLawsBesides
set_option maxRecDepth 100000
namespace Go.Proofs.Ytpnfdmglhonkmaa
open Go.RowKit

theorem order_self (b : Nat) : FloatKind.f64.format.order b b = if 9218868437227405312 < b % 9223372036854775808 then none else some .eq := by
  have hs : FloatKind.f64.format.signWeight = 9223372036854775808 := by decide
  have hi : FloatKind.f64.format.infRung = 9218868437227405312 := by decide
  have hb : FloatKind.f64.format.binade = 4503599627370496 := by decide
  unfold Ieee.Format.order Ieee.Format.read
  rw [hs, hi, hb]
  simp only
  by_cases c1 : b % 9223372036854775808 < 4503599627370496
  · rw [if_pos c1, if_neg (by omega)]
    simp [Ieee.Datum.order, Std.ReflCmp.compare_self]
  · rw [if_neg c1]
    by_cases c2 : b % 9223372036854775808 < 9218868437227405312
    · rw [if_pos c2, if_neg (by omega)]
      simp [Ieee.Datum.order, Std.ReflCmp.compare_self]
    · rw [if_neg c2]
      by_cases c3 : b % 9223372036854775808 = 9218868437227405312
      · rw [if_pos c3, if_neg (by omega)]
        simp [Ieee.Datum.order, Std.ReflCmp.compare_self]
      · rw [if_neg c3, if_pos (by omega)]
        simp [Ieee.Datum.order]

theorem frombits_run (n : Int) (w : World) : (callFunc 100 #[.int .u64 n]).run Try.prog w = .ok (.value (.float .f64 n.toNat)) w :=
  run_callFunc_extern (e := Go.Extern.MathFloatBits.float64frombits) Try.func100 (by kernel_rfl) (by kernel_rfl) (by kernel_rfl) (by kernel_rfl) _ w
theorem bits_run (b : Nat) (w : World) : (callFunc 98 #[.float .f64 b]).run Try.prog w = .ok (.value (.int .u64 b)) w :=
  run_callFunc_extern (e := Go.Extern.MathFloatBits.float64bits) Try.func98 (by kernel_rfl) (by kernel_rfl) (by kernel_rfl) (by kernel_rfl) _ w

theorem isnan_any (b : Nat) (w : World) : Calls Try.prog 97 #[.float .f64 b] w fun e w' => e = .returned (.bool (decide (9218868437227405312 < b % 9223372036854775808))) ∧ w = w' := by
  have ho := order_self b
  have hR : (FloatKind.f64.format.order b b != some .eq) = decide (9218868437227405312 < b % 9223372036854775808) := by
    rw [ho]
    by_cases c : 9218868437227405312 < b % 9223372036854775808
    · rw [if_pos c, decide_eq_true c]; rfl
    · rw [if_neg c, decide_eq_false c]; rfl
  have HR := Lib.hid hR
  clear ho hR
  go_enter Try.func97, Try.ntmps97
  go_wp2
  go_ret
  exact ⟨by rw [← HR.out]; rfl, rfl⟩

set_option maxHeartbeats 400000 in
theorem canon_any (a : Int) (w : World) (h0 : 0 ≤ a) (h1 : a ≤ 18446744073709551615) :
    Calls Try.prog 68 #[.int .u64 a] w fun e w' => e = .returned (.int .u64 (canon a)) ∧ w = w' := by
  obtain ⟨n, rfl⟩ := Int.eq_ofNat_of_zero_le h0
  have hf := frombits_run
  have hb := bits_run
  have hcan : canon (n : Int) = if 9218868437227405312 < n % 9223372036854775808 then 9221120237041090561 else (n : Int) := by
    unfold canon
    by_cases c : 9218868437227405312 < n % 9223372036854775808
    · rw [if_pos (by omega), if_pos c]
    · rw [if_neg (by omega), if_neg c]
  have HC := Lib.hid hcan
  clear hcan
  by_cases c : 9218868437227405312 < n % 9223372036854775808
  · have t := decide_eq_true c
    go_enter Try.func68, Try.ntmps68
    go_wp2_with (first | (go_at_call 97; refine (isnan_any _ _).mono ?_; rintro x w0 ⟨rfl, rfl⟩) | (go_at_call 92; go_in) | (go_at_call 91; go_in) | (go_at_call 99; go_in))
    go_ret
    exact ⟨by rw [HC.out, if_pos c]; rfl, rfl⟩
  · have t := decide_eq_false c
    go_enter Try.func68, Try.ntmps68
    go_wp2_with (first | (go_at_call 97; refine (isnan_any _ _).mono ?_; rintro x w0 ⟨rfl, rfl⟩) | (go_at_call 92; go_in) | (go_at_call 91; go_in) | (go_at_call 99; go_in))
    go_ret
    exact ⟨by rw [HC.out, if_neg c]; rfl, rfl⟩

theorem andNot_sign (a : Nat) (h : a < 18446744073709551616) : bits .andNot .u64 (a : Int) 9223372036854775808 = ((a % 9223372036854775808 : Nat) : Int) := by
  have h1 := u64_andNot_nat a 9223372036854775808 h (by decide)
  have h2 : a &&& 9223372036854775807 = a % 9223372036854775808 := Nat.and_two_pow_sub_one_eq_mod a 63
  rw [show (18446744073709551615 - 9223372036854775808 : Nat) = 9223372036854775807 from rfl, h2] at h1
  exact h1


end Go.Proofs.Ytpnfdmglhonkmaa
