/- The document's package of numbers: how two stand (contracts of isNaN, rank, Order, Equal, Less). -/
import Derived.Test.YtjloiclbknfomaaGreatDoorNumOps
set_option maxRecDepth 100000
namespace Go.Proofs.YtjloiclbknfomaaGreatDoor
open Go.RowKit Ieee

theorem and_sign {a : Nat} (ha : a < 2 * signB) : bits .and .u64 ((a : Nat) : Int) 9223372036854775808 = if 9223372036854775808 ≤ a then 9223372036854775808 else 0 := by
  unfold signB at ha
  have h : bits .and .u64 ((a : Nat) : Int) 9223372036854775808 = ((a &&& 9223372036854775808 : Nat) : Int) := u64_and_nat a 9223372036854775808 (by omega) (by decide)
  have h2 : a &&& 9223372036854775808 = a / 9223372036854775808 % 2 * 9223372036854775808 := nat_bit 63 a
  rw [h2] at h
  rw [h]
  split <;> omega
theorem xor_all {a : Nat} (ha : a < 2 * signB) : bits .xor .u64 18446744073709551615 ((a : Nat) : Int) = ((18446744073709551615 - a : Nat) : Int) := by
  have h := u64_xor_nat 18446744073709551615 a (by decide) (by unfold signB at ha; omega)
  rw [show (18446744073709551615 : Nat) ^^^ a = 18446744073709551615 - a from Lib.xor_ones64 a (by unfold signB at ha; omega)] at h
  exact h
theorem or_sign {a : Nat} (hl : a < 9223372036854775808) : bits .or .u64 ((a : Nat) : Int) 9223372036854775808 = ((a + 9223372036854775808 : Nat) : Int) := by
  have h : bits .or .u64 ((a : Nat) : Int) 9223372036854775808 = ((a ||| 9223372036854775808 : Nat) : Int) := u64_or_nat a 9223372036854775808 (by omega) (by decide)
  rw [Nat.or_comm, nat_join 63 9223372036854775808 a (by decide) (by omega)] at h
  rw [h, Nat.add_comm]

theorem risnan_any {a : Nat} (ha : a < 2 * signB) : Told 52 #[.int .u64 (a : Nat)] (.bool (isN a)) := by
  intro w
  have hA := andNot_sign a (by unfold signB at ha; omega)
  have hn : isN a = decide (9218868437227405312 < a % 9223372036854775808) := rfl
  rw [hn]
  clear ha hn
  by_cases c : 9218868437227405312 < a % 9223372036854775808
  · have t : (9218868437227405312 : Int) < ((a % 9223372036854775808 : Nat) : Int) := by omega
    rw [decide_eq_true c]
    clear c
    obtain ⟨Y, hY⟩ : ∃ x : Int, x = ((a % 9223372036854775808 : Nat) : Int) := ⟨_, rfl⟩
    rw [← hY] at hA t
    clear hY
    go_enter Tryz.func52, Tryz.ntmps52
    go_wp2
    go_ret
    exact ⟨by simp [t], 0, rfl⟩
  · have t : ¬ (9218868437227405312 : Int) < ((a % 9223372036854775808 : Nat) : Int) := by omega
    rw [decide_eq_false c]
    clear c
    obtain ⟨Y, hY⟩ : ∃ x : Int, x = ((a % 9223372036854775808 : Nat) : Int) := ⟨_, rfl⟩
    rw [← hY] at hA t
    clear hY
    go_enter Tryz.func52, Tryz.ntmps52
    go_wp2
    go_ret
    exact ⟨by simp [t], 0, rfl⟩

theorem rrank_any {a : Nat} (ha : a < 2 * signB) : Told 74 #[.int .u64 (a : Nat)] (.int .u64 ((rrank a : Nat) : Int)) := by
  intro w
  have kn := risnan_any ha
  have hr : rrank a = if isN a then 18442240474082181121 else if 9223372036854775808 ≤ a then 18446744073709551615 - a else a + 9223372036854775808 := rfl
  have h1 := and_sign ha
  cases hn : isN a with
  | true =>
    rw [hn] at kn hr
    rw [if_pos rfl] at hr
    rw [hr]
    clear hr h1 hn ha
    go_enter Tryz.func74, Tryz.ntmps74
    go_wp2_with (first | (go_at_call 52; first | (with_reducible (refine (kn _).mono ?_); rintro _ _ ⟨rfl, _, rfl⟩)))
    go_ret
    exact ⟨rfl, _, rfl⟩
  | false =>
    rw [hn] at kn hr
    rw [if_neg (by decide)] at hr
    by_cases d : 9223372036854775808 ≤ a
    · rw [if_pos d] at hr h1
      rw [hr]
      have h2 := xor_all ha
      have hmax : IntKind.u64.max = 18446744073709551615 := by decide
      clear hr hn ha d
      go_enter Tryz.func74, Tryz.ntmps74
      go_wp2_with (first | (go_at_call 52; first | (with_reducible (refine (kn _).mono ?_); rintro _ _ ⟨rfl, _, rfl⟩)))
      go_ret
      exact ⟨by simp [h2], _, rfl⟩
    · rw [if_neg d] at hr h1
      rw [hr]
      have h2 := or_sign (a := a) (by omega)
      clear hr hn ha d
      go_enter Tryz.func74, Tryz.ntmps74
      go_wp2_with (first | (go_at_call 52; first | (with_reducible (refine (kn _).mono ?_); rintro _ _ ⟨rfl, _, rfl⟩)))
      go_ret
      exact ⟨by simp [h2], _, rfl⟩

theorem rorder_any {a b : Nat} (ha : a < 2 * signB) (hb : b < 2 * signB) : Told 48 #[.int .u64 (a : Nat), .int .u64 (b : Nat)] (.int .i64 (rOrder a b)) := by
  intro w
  have ka := rrank_any ha
  have kb := rrank_any hb
  have ho : rOrder a b = if ((rrank a : Nat) : Int) < ((rrank b : Nat) : Int) then -1 else if ((rrank b : Nat) : Int) < ((rrank a : Nat) : Int) then 1 else 0 := by
    unfold rOrder
    simp only [Int.ofNat_lt]
  rw [ho]
  clear ho
  obtain ⟨X, hX⟩ : ∃ x : Int, x = ((rrank a : Nat) : Int) := ⟨_, rfl⟩
  obtain ⟨Y, hY⟩ : ∃ x : Int, x = ((rrank b : Nat) : Int) := ⟨_, rfl⟩
  rw [← hX] at ka ⊢
  rw [← hY] at kb ⊢
  clear hX hY
  by_cases c : X < Y
  · rw [if_pos c]
    go_enter Tryz.func48, Tryz.ntmps48
    go_wp2_with (first | (go_at_call 74; first | (with_reducible (refine (ka _).mono ?_); rintro _ _ ⟨rfl, _, rfl⟩) | (with_reducible (refine (kb _).mono ?_); rintro _ _ ⟨rfl, _, rfl⟩)))
    go_ret
    exact ⟨rfl, _, rfl⟩
  · rw [if_neg c]
    by_cases d : Y < X
    · rw [if_pos d]
      go_enter Tryz.func48, Tryz.ntmps48
      go_wp2_with (first | (go_at_call 74; first | (with_reducible (refine (ka _).mono ?_); rintro _ _ ⟨rfl, _, rfl⟩) | (with_reducible (refine (kb _).mono ?_); rintro _ _ ⟨rfl, _, rfl⟩)))
      go_ret
      exact ⟨rfl, _, rfl⟩
    · rw [if_neg d]
      go_enter Tryz.func48, Tryz.ntmps48
      go_wp2_with (first | (go_at_call 74; first | (with_reducible (refine (ka _).mono ?_); rintro _ _ ⟨rfl, _, rfl⟩) | (with_reducible (refine (kb _).mono ?_); rintro _ _ ⟨rfl, _, rfl⟩)))
      go_ret
      exact ⟨rfl, _, rfl⟩

theorem requal_any {a b : Nat} (ha : a < 2 * signB) (hb : b < 2 * signB) : Told 73 #[.int .u64 (a : Nat), .int .u64 (b : Nat)] (.bool (rEqual a b)) := by
  intro w
  have ka := risnan_any ha
  have kb := risnan_any hb
  have h1 := andNot_sign a (by unfold signB at ha; omega)
  have h2 := andNot_sign b (by unfold signB at hb; omega)
  have hr : rEqual a b = (!isN a && !isN b && (decide (((a : Nat) : Int) = ((b : Nat) : Int)) || (decide (((a % 9223372036854775808 : Nat) : Int) = 0) && decide (((b % 9223372036854775808 : Nat) : Int) = 0)))) := by
    unfold rEqual signB
    simp only [Int.ofNat_inj, Int.natCast_eq_zero]
  rw [hr]
  clear hr ha hb
  obtain ⟨X, hX⟩ : ∃ x : Int, x = ((a % 9223372036854775808 : Nat) : Int) := ⟨_, rfl⟩
  obtain ⟨Y, hY⟩ : ∃ x : Int, x = ((b % 9223372036854775808 : Nat) : Int) := ⟨_, rfl⟩
  rw [← hX] at h1 ⊢
  rw [← hY] at h2 ⊢
  clear hX hY
  cases na : isN a with
  | true =>
    rw [na] at ka
    go_enter Tryz.func73, Tryz.ntmps73
    go_wp2_with (first | (go_at_call 52; first | (with_reducible (refine (ka _).mono ?_); rintro _ _ ⟨rfl, _, rfl⟩) | (with_reducible (refine (kb _).mono ?_); rintro _ _ ⟨rfl, _, rfl⟩)))
    go_ret
    exact ⟨rfl, _, rfl⟩
  | false =>
    rw [na] at ka
    cases nb : isN b with
    | true =>
      rw [nb] at kb
      go_enter Tryz.func73, Tryz.ntmps73
      go_wp2_with (first | (go_at_call 52; first | (with_reducible (refine (ka _).mono ?_); rintro _ _ ⟨rfl, _, rfl⟩) | (with_reducible (refine (kb _).mono ?_); rintro _ _ ⟨rfl, _, rfl⟩)))
      go_ret
      exact ⟨rfl, _, rfl⟩
    | false =>
      rw [nb] at kb
      clear na nb
      by_cases c : ((a : Nat) : Int) = ((b : Nat) : Int)
      · rw [decide_eq_true c]
        go_enter Tryz.func73, Tryz.ntmps73
        go_wp2_with (first | (go_at_call 52; first | (with_reducible (refine (ka _).mono ?_); rintro _ _ ⟨rfl, _, rfl⟩) | (with_reducible (refine (kb _).mono ?_); rintro _ _ ⟨rfl, _, rfl⟩)))
        go_ret
        exact ⟨by simp, _, rfl⟩
      · rw [decide_eq_false c]
        by_cases d : X = 0
        · rw [decide_eq_true d]
          go_enter Tryz.func73, Tryz.ntmps73
          go_wp2_with (first | (go_at_call 52; first | (with_reducible (refine (ka _).mono ?_); rintro _ _ ⟨rfl, _, rfl⟩) | (with_reducible (refine (kb _).mono ?_); rintro _ _ ⟨rfl, _, rfl⟩)))
          go_ret
          exact ⟨by rw [show ((((a : Nat) : Int) == ((b : Nat) : Int)) = false) from beq_eq_false_iff_ne.2 c]; by_cases y : Y = 0 <;> simp [y], _, rfl⟩
        · rw [decide_eq_false d]
          go_enter Tryz.func73, Tryz.ntmps73
          go_wp2_with (first | (go_at_call 52; first | (with_reducible (refine (ka _).mono ?_); rintro _ _ ⟨rfl, _, rfl⟩) | (with_reducible (refine (kb _).mono ?_); rintro _ _ ⟨rfl, _, rfl⟩)))
          go_ret
          exact ⟨by simp [c, d], _, rfl⟩

theorem rless_any {a b : Nat} (ha : a < 2 * signB) (hb : b < 2 * signB) : Told 46 #[.int .u64 (a : Nat), .int .u64 (b : Nat)] (.bool (rLess a b)) := by
  intro w
  have ka := risnan_any ha
  have kb := risnan_any hb
  have ke := requal_any ha hb
  have ko := rorder_any ha hb
  have hr : rLess a b = (!isN a && !isN b && !rEqual a b && decide (rOrder a b < 0)) := rfl
  rw [hr]
  clear hr ha hb
  obtain ⟨O, hO⟩ : ∃ x : Int, x = rOrder a b := ⟨_, rfl⟩
  rw [← hO] at ko ⊢
  clear hO
  cases na : isN a with
  | true =>
    rw [na] at ka
    go_enter Tryz.func46, Tryz.ntmps46
    go_wp2_with (first | (go_at_call 52; first | (with_reducible (refine (ka _).mono ?_); rintro _ _ ⟨rfl, _, rfl⟩) | (with_reducible (refine (kb _).mono ?_); rintro _ _ ⟨rfl, _, rfl⟩)))
    go_ret
    exact ⟨rfl, _, rfl⟩
  | false =>
    rw [na] at ka
    cases nb : isN b with
    | true =>
      rw [nb] at kb
      go_enter Tryz.func46, Tryz.ntmps46
      go_wp2_with (first | (go_at_call 52; first | (with_reducible (refine (ka _).mono ?_); rintro _ _ ⟨rfl, _, rfl⟩) | (with_reducible (refine (kb _).mono ?_); rintro _ _ ⟨rfl, _, rfl⟩)))
      go_ret
      exact ⟨rfl, _, rfl⟩
    | false =>
      rw [nb] at kb
      cases ne : rEqual a b with
      | true =>
        rw [ne] at ke
        go_enter Tryz.func46, Tryz.ntmps46
        go_wp2_with (first | (go_at_call 52; first | (with_reducible (refine (ka _).mono ?_); rintro _ _ ⟨rfl, _, rfl⟩) | (with_reducible (refine (kb _).mono ?_); rintro _ _ ⟨rfl, _, rfl⟩)) | (go_at_call 73; first | (with_reducible (refine (ke _).mono ?_); rintro _ _ ⟨rfl, _, rfl⟩)))
        go_ret
        exact ⟨rfl, _, rfl⟩
      | false =>
        rw [ne] at ke
        go_enter Tryz.func46, Tryz.ntmps46
        go_wp2_with (first | (go_at_call 52; first | (with_reducible (refine (ka _).mono ?_); rintro _ _ ⟨rfl, _, rfl⟩) | (with_reducible (refine (kb _).mono ?_); rintro _ _ ⟨rfl, _, rfl⟩)) | (go_at_call 73; first | (with_reducible (refine (ke _).mono ?_); rintro _ _ ⟨rfl, _, rfl⟩)) | (go_at_call 48; first | (with_reducible (refine (ko _).mono ?_); rintro _ _ ⟨rfl, _, rfl⟩)))
        go_ret
        exact ⟨by simp, _, rfl⟩
end Go.Proofs.YtjloiclbknfomaaGreatDoor
