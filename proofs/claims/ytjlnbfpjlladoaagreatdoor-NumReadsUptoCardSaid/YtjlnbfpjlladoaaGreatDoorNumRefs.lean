/- The document's package of numbers: how two stand (contracts of isNaN, rank, Order, Equal, Less). -/
import Derived.Test.YtjlnbfpjlladoaaGreatDoorNumOps
set_option maxRecDepth 100000
namespace Go.Proofs.YtjlnbfpjlladoaaGreatDoor
open Go.RowKit Ieee

theorem and_sign {a : Nat} (ha : a < 2 * signB) : bits .and .u64 ((a : Nat) : Int) 9223372036854775808 = if 9223372036854775808 ≤ a then 9223372036854775808 else 0 := by
  unfold signB at ha
  have h : bits .and .u64 ((a : Nat) : Int) 9223372036854775808 = ((a &&& 9223372036854775808 : Nat) : Int) := u64_and_nat a 9223372036854775808 (by omega) (by decide)
  have h2 : a &&& 9223372036854775808 = a / 9223372036854775808 % 2 * 9223372036854775808 := nat_bit 63 a
  rw [h2] at h
  rw [h]
  split <;> omega
theorem xor_all {a : Nat} (ha : a < 2 * signB) : bits .xor .u64 18446744073709551615 ((a : Nat) : Int) = ((18446744073709551615 - a : Nat) : Int) := by
  have h := u64_xor_nat 18446744073709551615 a (by decide) (by unfold signB at ha; omega)
  rw [show (18446744073709551615 : Nat) ^^^ a = 18446744073709551615 - a from Lib.xor_ones64 a (by unfold signB at ha; omega)] at h
  exact h
theorem or_sign {a : Nat} (hl : a < 9223372036854775808) : bits .or .u64 ((a : Nat) : Int) 9223372036854775808 = ((a + 9223372036854775808 : Nat) : Int) := by
  have h : bits .or .u64 ((a : Nat) : Int) 9223372036854775808 = ((a ||| 9223372036854775808 : Nat) : Int) := u64_or_nat a 9223372036854775808 (by omega) (by decide)
  rw [Nat.or_comm, nat_join 63 9223372036854775808 a (by decide) (by omega)] at h
  rw [h, Nat.add_comm]

theorem risnan_any {a : Nat} (ha : a < 2 * signB) : Told 49 #[.int .u64 (a : Nat)] (.bool (isN a)) := by
  intro w
  have hA := andNot_sign a (by unfold signB at ha; omega)
  have hn : isN a = decide (9218868437227405312 < a % 9223372036854775808) := rfl
  rw [hn]
  clear ha hn
  by_cases c : 9218868437227405312 < a % 9223372036854775808
  · have t : (9218868437227405312 : Int) < ((a % 9223372036854775808 : Nat) : Int) := by omega
    rw [decide_eq_true c]
    clear c
    obtain ⟨Y, hY⟩ : ∃ x : Int, x = ((a % 9223372036854775808 : Nat) : Int) := ⟨_, rfl⟩
    rw [← hY] at hA t
    clear hY
    go_enter Tryz.func49, Tryz.ntmps49
    go_wp2
    go_ret
    exact ⟨by simp [t], 0, rfl⟩
  · have t : ¬ (9218868437227405312 : Int) < ((a % 9223372036854775808 : Nat) : Int) := by omega
    rw [decide_eq_false c]
    clear c
    obtain ⟨Y, hY⟩ : ∃ x : Int, x = ((a % 9223372036854775808 : Nat) : Int) := ⟨_, rfl⟩
    rw [← hY] at hA t
    clear hY
    go_enter Tryz.func49, Tryz.ntmps49
    go_wp2
    go_ret
    exact ⟨by simp [t], 0, rfl⟩

theorem rrank_any {a : Nat} (ha : a < 2 * signB) : Told 77 #[.int .u64 (a : Nat)] (.int .u64 ((rrank a : Nat) : Int)) := by
  intro w
  have kn := risnan_any ha
  have hr : rrank a = if isN a then 18442240474082181121 else if 9223372036854775808 ≤ a then 18446744073709551615 - a else a + 9223372036854775808 := rfl
  have h1 := and_sign ha
  cases hn : isN a with
  | true =>
    rw [hn] at kn hr
    rw [if_pos rfl] at hr
    rw [hr]
    clear hr h1 hn ha
    go_enter Tryz.func77, Tryz.ntmps77
    go_wp2_with (first | (go_at_call 49; first | (with_reducible (refine (kn _).mono ?_); rintro _ _ ⟨rfl, _, rfl⟩)))
    go_ret
    exact ⟨rfl, _, rfl⟩
  | false =>
    rw [hn] at kn hr
    rw [if_neg (by decide)] at hr
    by_cases d : 9223372036854775808 ≤ a
    · rw [if_pos d] at hr h1
      rw [hr]
      have h2 := xor_all ha
      have hmax : IntKind.u64.max = 18446744073709551615 := by decide
      clear hr hn ha d
      go_enter Tryz.func77, Tryz.ntmps77
      go_wp2_with (first | (go_at_call 49; first | (with_reducible (refine (kn _).mono ?_); rintro _ _ ⟨rfl, _, rfl⟩)))
      go_ret
      exact ⟨by simp [h2], _, rfl⟩
    · rw [if_neg d] at hr h1
      rw [hr]
      have h2 := or_sign (a := a) (by omega)
      clear hr hn ha d
      go_enter Tryz.func77, Tryz.ntmps77
      go_wp2_with (first | (go_at_call 49; first | (with_reducible (refine (kn _).mono ?_); rintro _ _ ⟨rfl, _, rfl⟩)))
      go_ret
      exact ⟨by simp [h2], _, rfl⟩

theorem rorder_any {a b : Nat} (ha : a < 2 * signB) (hb : b < 2 * signB) : Told 54 #[.int .u64 (a : Nat), .int .u64 (b : Nat)] (.int .i64 (rOrder a b)) := by
  intro w
  have ka := rrank_any ha
  have kb := rrank_any hb
  have ho : rOrder a b = if ((rrank a : Nat) : Int) < ((rrank b : Nat) : Int) then -1 else if ((rrank b : Nat) : Int) < ((rrank a : Nat) : Int) then 1 else 0 := by
    unfold rOrder
    simp only [Int.ofNat_lt]
  rw [ho]
  clear ho
  obtain ⟨X, hX⟩ : ∃ x : Int, x = ((rrank a : Nat) : Int) := ⟨_, rfl⟩
  obtain ⟨Y, hY⟩ : ∃ x : Int, x = ((rrank b : Nat) : Int) := ⟨_, rfl⟩
  rw [← hX] at ka ⊢
  rw [← hY] at kb ⊢
  clear hX hY
  by_cases c : X < Y
  · rw [if_pos c]
    go_enter Tryz.func54, Tryz.ntmps54
    go_wp2_with (first | (go_at_call 77; first | (with_reducible (refine (ka _).mono ?_); rintro _ _ ⟨rfl, _, rfl⟩) | (with_reducible (refine (kb _).mono ?_); rintro _ _ ⟨rfl, _, rfl⟩)))
    go_ret
    exact ⟨rfl, _, rfl⟩
  · rw [if_neg c]
    by_cases d : Y < X
    · rw [if_pos d]
      go_enter Tryz.func54, Tryz.ntmps54
      go_wp2_with (first | (go_at_call 77; first | (with_reducible (refine (ka _).mono ?_); rintro _ _ ⟨rfl, _, rfl⟩) | (with_reducible (refine (kb _).mono ?_); rintro _ _ ⟨rfl, _, rfl⟩)))
      go_ret
      exact ⟨rfl, _, rfl⟩
    · rw [if_neg d]
      go_enter Tryz.func54, Tryz.ntmps54
      go_wp2_with (first | (go_at_call 77; first | (with_reducible (refine (ka _).mono ?_); rintro _ _ ⟨rfl, _, rfl⟩) | (with_reducible (refine (kb _).mono ?_); rintro _ _ ⟨rfl, _, rfl⟩)))
      go_ret
      exact ⟨rfl, _, rfl⟩



end Go.Proofs.YtjlnbfpjlladoaaGreatDoor
