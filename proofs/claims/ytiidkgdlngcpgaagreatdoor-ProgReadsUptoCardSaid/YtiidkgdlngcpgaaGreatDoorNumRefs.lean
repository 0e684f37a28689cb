/- The document's package of numbers: how two stand (contracts of isNaN, rank, Order, Equal, Less). -/
import Derived.Test.YtiidkgdlngcpgaaGreatDoorNumOps
set_option maxRecDepth 100000
namespace Go.Proofs.YtiidkgdlngcpgaaGreatDoor
open Go.RowKit Ieee

theorem and_sign {a : Nat} (ha : a < 2 * signB) : bits .and .u64 ((a : Nat) : Int) 9223372036854775808 = if 9223372036854775808 ≤ a then 9223372036854775808 else 0 := by
  unfold signB at ha
  have h : bits .and .u64 ((a : Nat) : Int) 9223372036854775808 = ((a &&& 9223372036854775808 : Nat) : Int) := u64_and_nat a 9223372036854775808 (by omega) (by decide)
  have h2 : a &&& 9223372036854775808 = a / 9223372036854775808 % 2 * 9223372036854775808 := nat_bit 63 a
  rw [h2] at h
  rw [h]
  split <;> omega
theorem xor_all {a : Nat} (ha : a < 2 * signB) : bits .xor .u64 18446744073709551615 ((a : Nat) : Int) = ((18446744073709551615 - a : Nat) : Int) := by
  have h := u64_xor_nat 18446744073709551615 a (by decide) (by unfold signB at ha; omega)
  rw [show (18446744073709551615 : Nat) ^^^ a = 18446744073709551615 - a from Lib.xor_ones64 a (by unfold signB at ha; omega)] at h
  exact h
theorem or_sign {a : Nat} (hl : a < 9223372036854775808) : bits .or .u64 ((a : Nat) : Int) 9223372036854775808 = ((a + 9223372036854775808 : Nat) : Int) := by
  have h : bits .or .u64 ((a : Nat) : Int) 9223372036854775808 = ((a ||| 9223372036854775808 : Nat) : Int) := u64_or_nat a 9223372036854775808 (by omega) (by decide)
  rw [Nat.or_comm, nat_join 63 9223372036854775808 a (by decide) (by omega)] at h
  rw [h, Nat.add_comm]

theorem risnan_any {a : Nat} (ha : a < 2 * signB) : Told 93 #[.int .u64 (a : Nat)] (.bool (isN a)) := by
  intro w
  have hA := andNot_sign a (by unfold signB at ha; omega)
  have hn : isN a = decide (9218868437227405312 < a % 9223372036854775808) := rfl
  rw [hn]
  clear ha hn
  by_cases c : 9218868437227405312 < a % 9223372036854775808
  · have t : (9218868437227405312 : Int) < ((a % 9223372036854775808 : Nat) : Int) := by omega
    rw [decide_eq_true c]
    clear c
    obtain ⟨Y, hY⟩ : ∃ x : Int, x = ((a % 9223372036854775808 : Nat) : Int) := ⟨_, rfl⟩
    rw [← hY] at hA t
    clear hY
    go_enter Tryz.func93, Tryz.ntmps93
    go_wp2
    go_ret
    exact ⟨by simp [t], 0, rfl⟩
  · have t : ¬ (9218868437227405312 : Int) < ((a % 9223372036854775808 : Nat) : Int) := by omega
    rw [decide_eq_false c]
    clear c
    obtain ⟨Y, hY⟩ : ∃ x : Int, x = ((a % 9223372036854775808 : Nat) : Int) := ⟨_, rfl⟩
    rw [← hY] at hA t
    clear hY
    go_enter Tryz.func93, Tryz.ntmps93
    go_wp2
    go_ret
    exact ⟨by simp [t], 0, rfl⟩





end Go.Proofs.YtiidkgdlngcpgaaGreatDoor
