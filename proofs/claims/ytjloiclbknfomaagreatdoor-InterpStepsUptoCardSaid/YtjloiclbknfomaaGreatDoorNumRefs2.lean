/- The document's package of numbers: classes, signs, the lesser and the greater (contracts). -/
import Derived.Test.YtjloiclbknfomaaGreatDoorNumRefs
set_option maxRecDepth 100000
namespace Go.Proofs.YtjloiclbknfomaaGreatDoor
open Go.RowKit Ieee

theorem rclass_any {a : Nat} (ha : a < 2 * signB) : Told 55 #[.int .u64 (a : Nat)] (.int .i64 (fclass a)) := by
  intro w
  have hA := andNot_sign a (by unfold signB at ha; omega)
  have hc : fclass a = if 9218868437227405312 < a % 9223372036854775808 then 0 else if a % 9223372036854775808 = 9218868437227405312 then 1 else if a % 9223372036854775808 = 0 then 2 else if a % 9223372036854775808 < 4503599627370496 then 3 else 4 := rfl
  obtain ⟨b, hb⟩ : ∃ b, b = a % 9223372036854775808 := ⟨_, rfl⟩
  rw [← hb] at hA hc
  rw [hc]
  clear hc hb ha
  obtain ⟨Y, hY⟩ : ∃ y : Int, y = ((b : Nat) : Int) := ⟨_, rfl⟩

  by_cases c0 : 9218868437227405312 < b
  · rw [if_pos c0]
    have t0 : ((9218868437227405312 : Int) < Y) := by omega
    rw [← hY] at hA
    clear hY c0
    go_enter Tryz.func55, Tryz.ntmps55
    go_wp2
    go_ret
    exact ⟨rfl, 0, rfl⟩
  by_cases c1 : b = 9218868437227405312
  · rw [if_neg c0, if_pos c1]
    have t0 : ¬ ((9218868437227405312 : Int) < Y) := by omega
    have t1 : (Y = 9218868437227405312) := by omega
    rw [← hY] at hA
    clear hY c0 c1
    go_enter Tryz.func55, Tryz.ntmps55
    go_wp2
    go_ret
    exact ⟨rfl, 0, rfl⟩
  by_cases c2 : b = 0
  · rw [if_neg c0, if_neg c1, if_pos c2]
    have t0 : ¬ ((9218868437227405312 : Int) < Y) := by omega
    have t1 : ¬ (Y = 9218868437227405312) := by omega
    have u1 : (Y == 9218868437227405312) = false := beq_eq_false_iff_ne.2 t1
    have t2 : (Y = 0) := by omega
    rw [← hY] at hA
    clear hY c0 c1 c2
    go_enter Tryz.func55, Tryz.ntmps55
    go_wp2
    go_ret
    exact ⟨rfl, 0, rfl⟩
  by_cases c3 : b < 4503599627370496
  · rw [if_neg c0, if_neg c1, if_neg c2, if_pos c3]
    have t0 : ¬ ((9218868437227405312 : Int) < Y) := by omega
    have t1 : ¬ (Y = 9218868437227405312) := by omega
    have u1 : (Y == 9218868437227405312) = false := beq_eq_false_iff_ne.2 t1
    have t2 : ¬ (Y = 0) := by omega
    have u2 : (Y == 0) = false := beq_eq_false_iff_ne.2 t2
    have t3 : (Y < 4503599627370496) := by omega
    rw [← hY] at hA
    clear hY c0 c1 c2 c3
    go_enter Tryz.func55, Tryz.ntmps55
    go_wp2
    go_ret
    exact ⟨rfl, 0, rfl⟩
  rw [if_neg c0, if_neg c1, if_neg c2, if_neg c3]
  have t0 : ¬ ((9218868437227405312 : Int) < Y) := by omega
  have t1 : ¬ (Y = 9218868437227405312) := by omega
  have u1 : (Y == 9218868437227405312) = false := beq_eq_false_iff_ne.2 t1
  have t2 : ¬ (Y = 0) := by omega
  have u2 : (Y == 0) = false := beq_eq_false_iff_ne.2 t2
  have t3 : ¬ (Y < 4503599627370496) := by omega
  rw [← hY] at hA
  clear hY c0 c1 c2 c3
  go_enter Tryz.func55, Tryz.ntmps55
  go_wp2
  go_ret
  exact ⟨rfl, 0, rfl⟩

theorem rneg_any {a : Nat} (ha : a < 2 * signB) : Told 49 #[.int .u64 (a : Nat)] (.int .u64 ((fneg a : Nat) : Int)) := by
  intro w
  have ka := risnan_any ha
  have hx : bits .xor .u64 ((a : Nat) : Int) 9223372036854775808 = ((flipW a : Nat) : Int) := by
    have h := u64_xor_nat a 9223372036854775808 (by unfold signB at ha; omega) (by decide)
    rw [xor_flip ha] at h
    exact h
  have hr : fneg a = if isN a then nanB else flipW a := rfl
  rw [hr]
  clear hr ha
  cases na : isN a with
  | true =>
    rw [na] at ka
    rw [if_pos rfl]
    clear hx
    go_enter Tryz.func49, Tryz.ntmps49
    go_wp2_with (first | (go_at_call 52; first | (with_reducible (refine (ka _).mono ?_); rintro _ _ ⟨rfl, _, rfl⟩)))
    go_ret
    exact ⟨rfl, _, rfl⟩
  | false =>
    rw [na] at ka
    rw [if_neg (by decide)]
    go_enter Tryz.func49, Tryz.ntmps49
    go_wp2_with (first | (go_at_call 52; first | (with_reducible (refine (ka _).mono ?_); rintro _ _ ⟨rfl, _, rfl⟩)))
    go_ret
    exact ⟨by simp [hx], _, rfl⟩

theorem rabs_any {a : Nat} (ha : a < 2 * signB) : Told 50 #[.int .u64 (a : Nat)] (.int .u64 ((fabs a : Nat) : Int)) := by
  intro w
  have ka := risnan_any ha
  have hx := andNot_sign a (by unfold signB at ha; omega)
  have hr : fabs a = if isN a then nanB else a % signB := rfl
  rw [hr]
  clear hr ha
  cases na : isN a with
  | true =>
    rw [na] at ka
    rw [if_pos rfl]
    clear hx
    go_enter Tryz.func50, Tryz.ntmps50
    go_wp2_with (first | (go_at_call 52; first | (with_reducible (refine (ka _).mono ?_); rintro _ _ ⟨rfl, _, rfl⟩)))
    go_ret
    exact ⟨rfl, _, rfl⟩
  | false =>
    rw [na] at ka
    rw [if_neg (by decide)]
    go_enter Tryz.func50, Tryz.ntmps50
    go_wp2_with (first | (go_at_call 52; first | (with_reducible (refine (ka _).mono ?_); rintro _ _ ⟨rfl, _, rfl⟩)))
    go_ret
    exact ⟨by simp [hx, signB], _, rfl⟩

theorem rmin_any {a b : Nat} (ha : a < 2 * signB) (hb : b < 2 * signB) : Told 44 #[.int .u64 (a : Nat), .int .u64 (b : Nat)] (.int .u64 ((rMin a b : Nat) : Int)) := by
  intro w
  have ka := risnan_any ha
  have kb := risnan_any hb
  have ko := rorder_any ha hb
  have hr : rMin a b = if isN a || isN b then nanB else if rOrder a b ≤ 0 then a else b := rfl
  rw [hr]
  clear hr ha hb
  obtain ⟨O, hO⟩ : ∃ x : Int, x = rOrder a b := ⟨_, rfl⟩
  rw [← hO] at ko ⊢
  clear hO
  cases na : isN a with
  | true =>
    rw [na] at ka
    rw [if_pos (by rfl)]
    go_enter Tryz.func44, Tryz.ntmps44
    go_wp2_with (first | (go_at_call 52; first | (with_reducible (refine (ka _).mono ?_); rintro _ _ ⟨rfl, _, rfl⟩) | (with_reducible (refine (kb _).mono ?_); rintro _ _ ⟨rfl, _, rfl⟩)))
    go_ret
    exact ⟨rfl, _, rfl⟩
  | false =>
    rw [na] at ka
    cases nb : isN b with
    | true =>
      rw [nb] at kb
      rw [if_pos (by rfl)]
      go_enter Tryz.func44, Tryz.ntmps44
      go_wp2_with (first | (go_at_call 52; first | (with_reducible (refine (ka _).mono ?_); rintro _ _ ⟨rfl, _, rfl⟩) | (with_reducible (refine (kb _).mono ?_); rintro _ _ ⟨rfl, _, rfl⟩)))
      go_ret
      exact ⟨rfl, _, rfl⟩
    | false =>
      rw [nb] at kb
      rw [if_neg (by decide)]
      clear na nb
      by_cases c : O ≤ 0
      · rw [if_pos c]
        go_enter Tryz.func44, Tryz.ntmps44
        go_wp2_with (first | (go_at_call 52; first | (with_reducible (refine (ka _).mono ?_); rintro _ _ ⟨rfl, _, rfl⟩) | (with_reducible (refine (kb _).mono ?_); rintro _ _ ⟨rfl, _, rfl⟩)) | (go_at_call 48; first | (with_reducible (refine (ko _).mono ?_); rintro _ _ ⟨rfl, _, rfl⟩)))
        go_ret
        exact ⟨rfl, _, rfl⟩
      · rw [if_neg c]
        go_enter Tryz.func44, Tryz.ntmps44
        go_wp2_with (first | (go_at_call 52; first | (with_reducible (refine (ka _).mono ?_); rintro _ _ ⟨rfl, _, rfl⟩) | (with_reducible (refine (kb _).mono ?_); rintro _ _ ⟨rfl, _, rfl⟩)) | (go_at_call 48; first | (with_reducible (refine (ko _).mono ?_); rintro _ _ ⟨rfl, _, rfl⟩)))
        go_ret
        exact ⟨rfl, _, rfl⟩

theorem rmax_any {a b : Nat} (ha : a < 2 * signB) (hb : b < 2 * signB) : Told 45 #[.int .u64 (a : Nat), .int .u64 (b : Nat)] (.int .u64 ((rMax a b : Nat) : Int)) := by
  intro w
  have ka := risnan_any ha
  have kb := risnan_any hb
  have ko := rorder_any ha hb
  have hr : rMax a b = if isN a || isN b then nanB else if 0 ≤ rOrder a b then a else b := rfl
  rw [hr]
  clear hr ha hb
  obtain ⟨O, hO⟩ : ∃ x : Int, x = rOrder a b := ⟨_, rfl⟩
  rw [← hO] at ko ⊢
  clear hO
  cases na : isN a with
  | true =>
    rw [na] at ka
    rw [if_pos (by rfl)]
    go_enter Tryz.func45, Tryz.ntmps45
    go_wp2_with (first | (go_at_call 52; first | (with_reducible (refine (ka _).mono ?_); rintro _ _ ⟨rfl, _, rfl⟩) | (with_reducible (refine (kb _).mono ?_); rintro _ _ ⟨rfl, _, rfl⟩)))
    go_ret
    exact ⟨rfl, _, rfl⟩
  | false =>
    rw [na] at ka
    cases nb : isN b with
    | true =>
      rw [nb] at kb
      rw [if_pos (by rfl)]
      go_enter Tryz.func45, Tryz.ntmps45
      go_wp2_with (first | (go_at_call 52; first | (with_reducible (refine (ka _).mono ?_); rintro _ _ ⟨rfl, _, rfl⟩) | (with_reducible (refine (kb _).mono ?_); rintro _ _ ⟨rfl, _, rfl⟩)))
      go_ret
      exact ⟨rfl, _, rfl⟩
    | false =>
      rw [nb] at kb
      rw [if_neg (by decide)]
      clear na nb
      by_cases c : 0 ≤ O
      · rw [if_pos c]
        go_enter Tryz.func45, Tryz.ntmps45
        go_wp2_with (first | (go_at_call 52; first | (with_reducible (refine (ka _).mono ?_); rintro _ _ ⟨rfl, _, rfl⟩) | (with_reducible (refine (kb _).mono ?_); rintro _ _ ⟨rfl, _, rfl⟩)) | (go_at_call 48; first | (with_reducible (refine (ko _).mono ?_); rintro _ _ ⟨rfl, _, rfl⟩)))
        go_ret
        exact ⟨rfl, _, rfl⟩
      · rw [if_neg c]
        go_enter Tryz.func45, Tryz.ntmps45
        go_wp2_with (first | (go_at_call 52; first | (with_reducible (refine (ka _).mono ?_); rintro _ _ ⟨rfl, _, rfl⟩) | (with_reducible (refine (kb _).mono ?_); rintro _ _ ⟨rfl, _, rfl⟩)) | (go_at_call 48; first | (with_reducible (refine (ko _).mono ?_); rintro _ _ ⟨rfl, _, rfl⟩)))
        go_ret
        exact ⟨rfl, _, rfl⟩

theorem rcanon_is {a : Nat} (ha : a < 2 * signB) : Told 66 #[.int .u64 (a : Nat)] (.int .u64 ((fcan a : Nat) : Int)) := by
  intro w
  refine (rcanon_any (a : Int) w (by omega) (by unfold signB at ha; omega)).mono ?_
  rintro x w0 ⟨rfl, rfl⟩
  refine ⟨?_, 0, rfl⟩
  have : canon (a : Int) = ((fcan a : Nat) : Int) := by
    unfold canon fcan isN nanB infB signB
    by_cases c : 9218868437227405312 < a % 9223372036854775808
    · rw [if_pos (by omega), decide_eq_true c, if_pos rfl]
      rfl
    · rw [if_neg (by omega), decide_eq_false c, if_neg (by decide)]
  rw [this]

end Go.Proofs.YtjloiclbknfomaaGreatDoor
