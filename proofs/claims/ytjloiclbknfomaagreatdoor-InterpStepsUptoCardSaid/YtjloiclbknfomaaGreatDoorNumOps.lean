/- Package num's functions: what each answers (contracts). -/
import Derived.Test.YtjloiclbknfomaaGreatDoorFl
import Derived.Test.YtjloiclbknfomaaGreatDoorNb
set_option maxRecDepth 100000
namespace Go.Proofs.YtjloiclbknfomaaGreatDoor
open Go.RowKit Ieee

/-- a call that answers v and leaves the world as it was, but for what it draws -/
abbrev Told (f : FuncId) (args : Array Value) (v : Value) : Prop := ∀ w : World, Calls Tryz.prog f args w fun e w' => e = .returned v ∧ ∃ n, w' = w.drewN n

theorem Told.to {f : FuncId} {args : Array Value} {v u : Value} (h : Told f args v) (e : v = u) : Told f args u := e ▸ h

theorem and_frac {a : Nat} (ha : a < 2 * signB) : bits .and .u64 (a : Int) 4503599627370495 = ((a % 4503599627370496 : Nat) : Int) := by
  have h1 := u64_and_nat a 4503599627370495 (by unfold signB at ha; omega) (by decide)
  have h2 : a &&& 4503599627370495 = a % 4503599627370496 := Nat.and_two_pow_sub_one_eq_mod a 52
  rw [h2] at h1
  exact h1

theorem raw_any (b : Nat) : Told 102 #[.float .f64 b] (.int .u64 ((fcan b : Nat) : Int)) := by
  intro w
  have hf := frombits_run
  have hb := bits_run
  have hcan : fcan b = if 9218868437227405312 < b % 9223372036854775808 then 9221120237041090561 else b := by
    unfold fcan isN nanB infB signB
    simp
  have HC := Lib.hid hcan
  clear hcan
  by_cases c : 9218868437227405312 < b % 9223372036854775808
  · have t := decide_eq_true c
    go_enter Tryz.func102, Tryz.ntmps102
    go_wp2_with (first | (go_at_call 93; refine (isnan_any _ _).mono ?_; rintro x w0 ⟨rfl, rfl⟩) | (go_at_call 117; go_in))
    go_ret
    exact ⟨by rw [HC.out, if_pos c]; rfl, 0, rfl⟩
  · have t := decide_eq_false c
    go_enter Tryz.func102, Tryz.ntmps102
    go_wp2_with (first | (go_at_call 93; refine (isnan_any _ _).mono ?_; rintro x w0 ⟨rfl, rfl⟩) | (go_at_call 117; go_in))
    go_ret
    exact ⟨by rw [HC.out, if_neg c]; rfl, 0, rfl⟩

theorem add_any {a b : Nat} (_ : a < 2 * signB) (_ : b < 2 * signB) : Told 77 #[.int .u64 (a : Nat), .int .u64 (b : Nat)] (.int .u64 ((fadd a b : Nat) : Int)) := by
  intro w
  obtain ⟨v, n, hv, hf, hr⟩ := add_run (P := Tryz.prog) w 121 a b
  have HF := Lib.hid hf
  clear hf hv
  have hfb := frombits_run
  go_enter Tryz.func77, Tryz.ntmps77
  go_wp2_with (first | (go_at_call 91; go_in) | (go_at_call 102; refine (raw_any _ _).mono ?_; rintro x w0 ⟨rfl, n0, rfl⟩))
  go_ret
  exact ⟨by rw [HF.out]; rfl, _, rfl⟩

theorem sub_any {a b : Nat} (_ : a < 2 * signB) (_ : b < 2 * signB) : Told 78 #[.int .u64 (a : Nat), .int .u64 (b : Nat)] (.int .u64 ((fsub a b : Nat) : Int)) := by
  intro w
  obtain ⟨v, n, hv, hf, hr⟩ := sub_run (P := Tryz.prog) w 121 a b
  have HF := Lib.hid hf
  clear hf hv
  have hfb := frombits_run
  go_enter Tryz.func78, Tryz.ntmps78
  go_wp2_with (first | (go_at_call 91; go_in) | (go_at_call 102; refine (raw_any _ _).mono ?_; rintro x w0 ⟨rfl, n0, rfl⟩))
  go_ret
  exact ⟨by rw [HF.out]; rfl, _, rfl⟩

theorem mul_any {a b : Nat} (_ : a < 2 * signB) (_ : b < 2 * signB) : Told 79 #[.int .u64 (a : Nat), .int .u64 (b : Nat)] (.int .u64 ((fmul a b : Nat) : Int)) := by
  intro w
  obtain ⟨v, n, hv, hf, hr⟩ := mul_run (P := Tryz.prog) w 121 a b
  have HF := Lib.hid hf
  clear hf hv
  have hfb := frombits_run
  have hc : ∀ w, (convert 121 121 (.float .f64 v)).run Tryz.prog w = .ok (.float .f64 v) w := fun w => run_convert_float_float w _ _ .f64 .f64 v v (by rw [Tryz.underlying121]; rfl) Tryz.underlying121 rfl
  go_enter Tryz.func79, Tryz.ntmps79
  go_wp2_with (first | (go_at_call 91; go_in) | (go_at_call 102; refine (raw_any _ _).mono ?_; rintro x w0 ⟨rfl, n0, rfl⟩))
  go_ret
  exact ⟨by rw [HF.out]; rfl, _, rfl⟩

theorem div_any {a b : Nat} (_ : a < 2 * signB) (_ : b < 2 * signB) : Told 80 #[.int .u64 (a : Nat), .int .u64 (b : Nat)] (.int .u64 ((fdiv a b : Nat) : Int)) := by
  intro w
  obtain ⟨v, n, hv, hf, hr⟩ := div_run (P := Tryz.prog) w 121 a b
  have HF := Lib.hid hf
  clear hf hv
  have hfb := frombits_run
  go_enter Tryz.func80, Tryz.ntmps80
  go_wp2_with (first | (go_at_call 91; go_in) | (go_at_call 102; refine (raw_any _ _).mono ?_; rintro x w0 ⟨rfl, n0, rfl⟩))
  go_ret
  exact ⟨by rw [HF.out]; rfl, _, rfl⟩

theorem min_any {a b : Nat} (ha : a < 2 * signB) (hb : b < 2 * signB) : Told 81 #[.int .u64 (a : Nat), .int .u64 (b : Nat)] (.int .u64 ((fmin a b : Nat) : Int)) := by
  intro w
  obtain ⟨v, n, hv, hf, hr⟩ := min_run (P := Tryz.prog) w #[121, 121] 121 ha hb
  have HF := Lib.hid hf
  clear hf hv
  have hfb := frombits_run
  go_enter Tryz.func81, Tryz.ntmps81
  go_wp2_with (first | (go_at_call 91; go_in) | (go_at_call 102; refine (raw_any _ _).mono ?_; rintro x w0 ⟨rfl, n0, rfl⟩))
  go_ret
  exact ⟨by rw [HF.out]; rfl, _, rfl⟩

theorem max_any {a b : Nat} (ha : a < 2 * signB) (hb : b < 2 * signB) : Told 82 #[.int .u64 (a : Nat), .int .u64 (b : Nat)] (.int .u64 ((fmax a b : Nat) : Int)) := by
  intro w
  obtain ⟨v, n, hv, hf, hr⟩ := max_run (P := Tryz.prog) w #[121, 121] 121 ha hb
  have HF := Lib.hid hf
  clear hf hv
  have hfb := frombits_run
  go_enter Tryz.func82, Tryz.ntmps82
  go_wp2_with (first | (go_at_call 91; go_in) | (go_at_call 102; refine (raw_any _ _).mono ?_; rintro x w0 ⟨rfl, n0, rfl⟩))
  go_ret
  exact ⟨by rw [HF.out]; rfl, _, rfl⟩

theorem mabs_any {a : Nat} (ha : a < 2 * signB) (w : World) : Calls Tryz.prog 96 #[.float .f64 a] w fun e w' => e = .returned (.float .f64 (a % signB)) ∧ w = w' := by
  have hfb := frombits_run
  have hb := bits_run
  have hA := andNot_sign a (by unfold signB at ha; omega)
  clear ha
  go_enter Tryz.func96, Tryz.ntmps96
  go_wp2
  go_ret
  exact ⟨by unfold signB; simp, rfl⟩
theorem abs_any {a : Nat} (ha : a < 2 * signB) : Told 89 #[.int .u64 (a : Nat)] (.int .u64 ((fabs a : Nat) : Int)) := by
  intro w
  have HF := Lib.hid (abs_is a)
  have km := mabs_any ha
  clear ha
  have hfb := frombits_run
  go_enter Tryz.func89, Tryz.ntmps89
  go_wp2_with (first | (go_at_call 91; go_in) | (go_at_call 102; refine (raw_any _ _).mono ?_; rintro x w0 ⟨rfl, n0, rfl⟩) | (go_at_call 96; refine (km _).mono ?_; rintro x w0 ⟨rfl, rfl⟩))
  go_ret
  exact ⟨by rw [← HF.out]; rfl, _, rfl⟩
theorem neg_any {a : Nat} (ha : a < 2 * signB) : Told 88 #[.int .u64 (a : Nat)] (.int .u64 ((fneg a : Nat) : Int)) := by
  intro w
  have HF := Lib.hid (neg_is ha)
  clear ha
  have hfb := frombits_run
  have hneg : ∀ w, (Op.unary .neg (.float .f64 a)).run Tryz.prog w = .ok (.float .f64 (Op.negFloat .f64 a)) w := fun w => rfl
  go_enter Tryz.func88, Tryz.ntmps88
  go_wp2_with (first | (go_at_call 91; go_in) | (go_at_call 102; refine (raw_any _ _).mono ?_; rintro x w0 ⟨rfl, n0, rfl⟩))
  go_ret
  exact ⟨by rw [← HF.out]; rfl, _, rfl⟩
theorem of_any {n : Int} (_ : -9223372036854775808 ≤ n) (_ : n ≤ 9223372036854775807) : Told 85 #[.int .i64 n] (.int .u64 ((fof n : Nat) : Int)) := by
  intro w
  have HF := Lib.hid (of_is n)
  go_enter Tryz.func85, Tryz.ntmps85
  go_wp2_with (first | (go_at_call 91; go_in) | (go_at_call 102; refine (raw_any _ _).mono ?_; rintro x w0 ⟨rfl, n0, rfl⟩))
  go_ret
  exact ⟨by rw [← HF.out]; rfl, _, rfl⟩
theorem less_any {a b : Nat} (_ : a < 2 * signB) (_ : b < 2 * signB) : Told 84 #[.int .u64 (a : Nat), .int .u64 (b : Nat)] (.bool (fless a b)) := by
  intro w
  have HF := Lib.hid (fless_is a b)
  have hfb := frombits_run
  go_enter Tryz.func84, Tryz.ntmps84
  go_wp2_with (first | (go_at_call 91; go_in) | (go_at_call 102; refine (raw_any _ _).mono ?_; rintro x w0 ⟨rfl, n0, rfl⟩))
  go_ret
  exact ⟨by rw [HF.out]; rfl, 0, rfl⟩

theorem canon_is {a : Nat} (ha : a < 2 * signB) : Told 63 #[.int .u64 (a : Nat)] (.int .u64 ((fcan a : Nat) : Int)) := by
  intro w
  refine (canon_any (a : Int) w (by omega) (by unfold signB at ha; omega)).mono ?_
  rintro x w0 ⟨rfl, rfl⟩
  refine ⟨?_, 0, rfl⟩
  have : canon (a : Int) = ((fcan a : Nat) : Int) := by
    unfold canon fcan isN nanB infB signB
    by_cases c : 9218868437227405312 < a % 9223372036854775808
    · rw [if_pos (by omega), decide_eq_true c, if_pos rfl]
      rfl
    · rw [if_neg (by omega), decide_eq_false c, if_neg (by decide)]
  rw [this]

theorem class_run {b : Nat} (hb : b < signB) (w : World) : (FloatKind.f64.format.order b 9218868437227405311 == some .gt) = decide (b = 9218868437227405312) ∧ (FloatKind.f64.format.order b 0 == some .eq) = decide (b = 0) ∧ (FloatKind.f64.format.order b 4503599627370496 == some .lt) = decide (b < 4503599627370496) := by
  refine ⟨gt_max hb, ?_, lt_tiny hb⟩
  have h := eq_zero (b := b) (by omega)
  rw [Nat.mod_eq_of_lt hb] at h
  exact h
theorem class_any {a : Nat} (ha : a < 2 * signB) : Told 60 #[.int .u64 (a : Nat)] (.int .i64 (fclass a)) := by
  intro w
  have km := mabs_any ha
  have hfb := frombits_run
  have hl : a % signB < signB := Nat.mod_lt _ (by decide)
  obtain ⟨t1, t2, t3⟩ := class_run hl w
  have hcl : fclass a = if 9218868437227405312 < a % signB then 0 else if a % signB = 9218868437227405312 then 1 else if a % signB = 0 then 2 else if a % signB < 4503599627370496 then 3 else 4 := rfl
  have HC := Lib.hid hcl
  clear hcl
  obtain ⟨b, hb⟩ : ∃ b, b = a % signB := ⟨_, rfl⟩
  rw [← hb] at km hl t1 t2 t3 HC
  clear hb ha
  have hm : b % 9223372036854775808 = b := Nat.mod_eq_of_lt hl
  have kn : ∀ w, Calls Tryz.prog 93 #[.float .f64 b] w fun e w' => e = .returned (.bool (decide (9218868437227405312 < b))) ∧ w = w' := fun w => by
    have := isnan_any b w
    rw [hm] at this
    exact this
  clear hm hl

  by_cases c0 : 9218868437227405312 < b
  · rw [decide_eq_true c0] at kn
    have ho : fclass a = 0 := by
      rw [HC.out, if_pos c0]
    clear c0 HC t1 t2 t3
    rw [ho]
    clear ho
    go_enter Tryz.func60, Tryz.ntmps60
    go_wp2_with (first | (go_at_call 91; go_in) | (go_at_call 96; refine (km _).mono ?_; rintro x w0 ⟨rfl, rfl⟩) | (go_at_call 93; refine (kn _).mono ?_; rintro x w0 ⟨rfl, rfl⟩) | (go_at_call 94; go_in))
    go_ret
    exact ⟨rfl, 0, rfl⟩
  by_cases c1 : b = 9218868437227405312
  · rw [decide_eq_false c0] at kn
    rw [decide_eq_true c1] at t1
    have ho : fclass a = 1 := by
      rw [HC.out, if_neg c0, if_pos c1]
    clear c0 c1 HC t2 t3
    rw [ho]
    clear ho
    go_enter Tryz.func60, Tryz.ntmps60
    go_wp2_with (first | (go_at_call 91; go_in) | (go_at_call 96; refine (km _).mono ?_; rintro x w0 ⟨rfl, rfl⟩) | (go_at_call 93; refine (kn _).mono ?_; rintro x w0 ⟨rfl, rfl⟩) | (go_at_call 94; go_in))
    go_ret
    exact ⟨rfl, 0, rfl⟩
  by_cases c2 : b = 0
  · rw [decide_eq_false c0] at kn
    rw [decide_eq_false c1] at t1
    rw [decide_eq_true c2] at t2
    have ho : fclass a = 2 := by
      rw [HC.out, if_neg c0, if_neg c1, if_pos c2]
    clear c0 c1 c2 HC t3
    rw [ho]
    clear ho
    go_enter Tryz.func60, Tryz.ntmps60
    go_wp2_with (first | (go_at_call 91; go_in) | (go_at_call 96; refine (km _).mono ?_; rintro x w0 ⟨rfl, rfl⟩) | (go_at_call 93; refine (kn _).mono ?_; rintro x w0 ⟨rfl, rfl⟩) | (go_at_call 94; go_in))
    go_ret
    exact ⟨rfl, 0, rfl⟩
  by_cases c3 : b < 4503599627370496
  · rw [decide_eq_false c0] at kn
    rw [decide_eq_false c1] at t1
    rw [decide_eq_false c2] at t2
    rw [decide_eq_true c3] at t3
    have ho : fclass a = 3 := by
      rw [HC.out, if_neg c0, if_neg c1, if_neg c2, if_pos c3]
    clear c0 c1 c2 c3 HC
    rw [ho]
    clear ho
    go_enter Tryz.func60, Tryz.ntmps60
    go_wp2_with (first | (go_at_call 91; go_in) | (go_at_call 96; refine (km _).mono ?_; rintro x w0 ⟨rfl, rfl⟩) | (go_at_call 93; refine (kn _).mono ?_; rintro x w0 ⟨rfl, rfl⟩) | (go_at_call 94; go_in))
    go_ret
    exact ⟨rfl, 0, rfl⟩
  rw [decide_eq_false c0] at kn
  rw [decide_eq_false c1] at t1
  rw [decide_eq_false c2] at t2
  rw [decide_eq_false c3] at t3
  have ho : fclass a = 4 := by
    rw [HC.out, if_neg c0, if_neg c1, if_neg c2, if_neg c3]
  clear c0 c1 c2 c3 HC
  rw [ho]
  clear ho
  go_enter Tryz.func60, Tryz.ntmps60
  go_wp2_with (first | (go_at_call 91; go_in) | (go_at_call 96; refine (km _).mono ?_; rintro x w0 ⟨rfl, rfl⟩) | (go_at_call 93; refine (kn _).mono ?_; rintro x w0 ⟨rfl, rfl⟩) | (go_at_call 94; go_in))
  go_ret
  exact ⟨rfl, 0, rfl⟩

theorem key_any {a : Nat} (ha : a < 2 * signB) : Told 106 #[.int .u64 (a : Nat)] (.int .u64 ((fkey a : Nat) : Int)) := by
  intro w
  have hfb := frombits_run
  have hb := bits_run
  have hk : fkey a = if 9218868437227405312 < a % 9223372036854775808 then 18446744073709551615 else if 9223372036854775808 ≤ a then 18446744073709551615 - a else a + 9223372036854775808 := by
    unfold fkey isN infB signB
    by_cases c : 9218868437227405312 < a % 9223372036854775808
    · rw [decide_eq_true c, if_pos rfl, if_pos c]
    · rw [decide_eq_false c, if_neg (by decide), if_neg c]
  have kn := isnan_any a
  have h1 : bits .xor .u64 18446744073709551615 ((a : Nat) : Int) = ((18446744073709551615 - a : Nat) : Int) := by
    have h := u64_xor_nat 18446744073709551615 a (by decide) (by unfold signB at ha; omega)
    rw [show (18446744073709551615 : Nat) ^^^ a = 18446744073709551615 - a from Lib.xor_ones64 a (by unfold signB at ha; omega)] at h
    exact h
  have h2 : a < 9223372036854775808 → bits .or .u64 ((a : Nat) : Int) 9223372036854775808 = ((a + 9223372036854775808 : Nat) : Int) := fun hl => by
    have h : bits .or .u64 ((a : Nat) : Int) 9223372036854775808 = ((a ||| 9223372036854775808 : Nat) : Int) := u64_or_nat a 9223372036854775808 (by omega) (by decide)
    rw [Nat.or_comm, nat_join 63 9223372036854775808 a (by decide) (by omega)] at h
    rw [h, Nat.add_comm]
  have h3 : IntKind.i64.wrap ((a : Nat) : Int) = if 9223372036854775808 ≤ a then (a : Int) - 18446744073709551616 else (a : Int) := by
    rw [IntKind.wrap_i64]
    unfold signB at ha
    split <;> omega
  have hmax : IntKind.u64.max = 18446744073709551615 := by decide
  unfold signB at ha
  by_cases c : 9218868437227405312 < a % 9223372036854775808
  · rw [if_pos c] at hk
    rw [hk]
    rw [decide_eq_true c] at kn
    clear hk h1 h2 h3 c ha
    go_enter Tryz.func106, Tryz.ntmps106
    go_wp2_with (first | (go_at_call 91; go_in) | (go_at_call 93; refine (kn _).mono ?_; rintro x w0 ⟨rfl, rfl⟩))
    go_ret
    exact ⟨rfl, 0, rfl⟩
  · rw [if_neg c] at hk
    rw [decide_eq_false c] at kn
    by_cases d : 9223372036854775808 ≤ a
    · rw [if_pos d] at hk h3
      rw [hk]
      have s1 : ((a : Nat) : Int) - 18446744073709551616 < 0 := by omega
      clear hk h2 c
      go_enter Tryz.func106, Tryz.ntmps106
      go_wp2_with (first | (go_at_call 91; go_in) | (go_at_call 93; refine (kn _).mono ?_; rintro x w0 ⟨rfl, rfl⟩) | (go_at_call 92; go_in))
      go_ret
      exact ⟨by simp [h1], 0, rfl⟩
    · rw [if_neg d] at hk h3
      rw [hk]
      have h4 := h2 (by omega)
      have s1 : ¬ ((a : Nat) : Int) < 0 := by omega
      clear hk h1 h2 c
      go_enter Tryz.func106, Tryz.ntmps106
      go_wp2_with (first | (go_at_call 91; go_in) | (go_at_call 93; refine (kn _).mono ?_; rintro x w0 ⟨rfl, rfl⟩) | (go_at_call 92; go_in))
      go_ret
      exact ⟨by simp [h4], 0, rfl⟩

theorem order_any {a b : Nat} (ha : a < 2 * signB) (hb : b < 2 * signB) : Told 87 #[.int .u64 (a : Nat), .int .u64 (b : Nat)] (.int .i64 (forder a b)) := by
  intro w
  have ka := key_any ha
  have kb := key_any hb
  have ho : forder a b = if ((fkey a : Nat) : Int) < ((fkey b : Nat) : Int) then -1 else if ((fkey b : Nat) : Int) < ((fkey a : Nat) : Int) then 1 else 0 := by
    unfold forder
    simp only [Int.ofNat_lt]
  rw [ho]
  clear ho
  obtain ⟨X, hX⟩ : ∃ x : Int, x = ((fkey a : Nat) : Int) := ⟨_, rfl⟩
  obtain ⟨Y, hY⟩ : ∃ x : Int, x = ((fkey b : Nat) : Int) := ⟨_, rfl⟩
  rw [← hX] at ka ⊢
  rw [← hY] at kb ⊢
  clear hX hY
  by_cases c : X < Y
  · rw [if_pos c]
    go_enter Tryz.func87, Tryz.ntmps87
    go_wp2_with (go_at_call 106; first | (with_reducible (refine (ka _).mono ?_); rintro _ _ ⟨rfl, _, rfl⟩) | (with_reducible (refine (kb _).mono ?_); rintro _ _ ⟨rfl, _, rfl⟩))
    go_ret
    exact ⟨rfl, _, rfl⟩
  · rw [if_neg c]
    by_cases d : Y < X
    · rw [if_pos d]
      go_enter Tryz.func87, Tryz.ntmps87
      go_wp2_with (go_at_call 106; first | (with_reducible (refine (ka _).mono ?_); rintro _ _ ⟨rfl, _, rfl⟩) | (with_reducible (refine (kb _).mono ?_); rintro _ _ ⟨rfl, _, rfl⟩))
      go_ret
      exact ⟨rfl, _, rfl⟩
    · rw [if_neg d]
      go_enter Tryz.func87, Tryz.ntmps87
      go_wp2_with (go_at_call 106; first | (with_reducible (refine (ka _).mono ?_); rintro _ _ ⟨rfl, _, rfl⟩) | (with_reducible (refine (kb _).mono ?_); rintro _ _ ⟨rfl, _, rfl⟩))
      go_ret
      exact ⟨rfl, _, rfl⟩

/-- math.Floor: of a NaN some NaN, else the floor -/
theorem mfloor_any {a : Nat} (ha : a < 2 * signB) (w : World) : ∃ v n, v < 2 * signB ∧ fcan v = ffloor a ∧ isN v = isN a ∧ (isN a = false → v = ffloor a) ∧ (callFunc 115 #[.float .f64 a]).run Tryz.prog w = .ok (.value (.float .f64 v)) (w.drewN n) := by
  obtain ⟨v, n, h1, h2, h3, h4, h5⟩ := floor_run (P := Tryz.prog) w ha
  have hx := run_callFunc_extern (P := Tryz.prog) (e := Go.Extern.MathFloor.toIntegral "math.archFloor" .down) Tryz.func115 (by kernel_rfl) (by kernel_rfl) (by kernel_rfl) (by kernel_rfl) #[.float .f64 a] w
  rw [h5] at hx
  exact ⟨v, n, h1, h2, h3, h4, hx⟩

theorem floor_any {a : Nat} (ha : a < 2 * signB) : Told 90 #[.int .u64 (a : Nat)] (.int .u64 ((ffloor a : Nat) : Int)) := by
  intro w
  obtain ⟨v, n, h1, h2, h3, h4, h5⟩ := mfloor_any ha w
  have HF := Lib.hid h2
  clear h1 h2 h3 h4 ha
  have hfb := frombits_run
  go_enter Tryz.func90, Tryz.ntmps90
  go_wp2_with (first | (go_at_call 91; go_in) | (go_at_call 102; refine (raw_any _ _).mono ?_; rintro x w0 ⟨rfl, n0, rfl⟩) | (go_at_call 101; go_in))
  go_ret
  exact ⟨by rw [← HF.out]; rfl, _, rfl⟩

theorem int_any {a : Nat} (ha : a < 2 * signB) : Told 61 #[.int .u64 (a : Nat)] (.tuple #[.int .i64 (fintR a).1, .int .i64 (fintR a).2]) := by
  intro w
  obtain ⟨v, n, h1, h2, h3, h4, h5⟩ := mfloor_any ha w
  have hfb := frombits_run
  cases hn : isN a with
  | true =>
    have hr : fintR a = (0, 11) := fint_no (by
      have h := fequal_val ha (ffloor_lt ha)
      rw [hn] at h
      rw [h]
      rfl)
    have t1 : (FloatKind.f64.format.order a v != some .eq) = true := by
      have : FloatKind.f64.format.order a v = none := order_nan ha h1 (.inl hn)
      rw [this]
      rfl
    rw [hr]
    clear h1 h2 h3 h4 hn hr ha
    go_enter Tryz.func61, Tryz.ntmps61
    go_wp2_with (first | (go_at_call 91; go_in) | (go_at_call 101; go_in))
    go_ret2
    exact ⟨rfl, _, rfl⟩
  | false =>
    obtain rfl := h4 hn
    have lf := ffloor_lt ha
    have e1 := fequal_is a (ffloor a)
    have e2 := geq_is a c63n
    have e3 := fless_is a c63
    by_cases c1 : fequal a (ffloor a) = true
    · have t1 : (FloatKind.f64.format.order a (ffloor a) != some .eq) = false := by
        rw [c1] at e1
        have : FloatKind.f64.format.order a (ffloor a) = some .eq := eq_of_beq e1.symm
        rw [this]
        rfl
      by_cases c2 : fgeq a c63n = true
      · have t2 : (FloatKind.f64.format.order a 14114281232179134464 == some .gt || FloatKind.f64.format.order a 14114281232179134464 == some .eq) = true := e2.symm.trans c2
        by_cases c3 : fless a c63 = true
        · have t3 : (FloatKind.f64.format.order a 4890909195324358656 == some .lt) = true := e3.symm.trans c3
          obtain ⟨m, k1, k2, k3, k4⟩ := fint_all ha c1 c2 c3
          rw [fint_yes k2]
          have hc : ∀ w, (convert 121 2 (.float .f64 a)).run Tryz.prog w = .ok (.int .i64 m) w := fun w => run_convert_float_int w _ _ .f64 .i64 a m (by rw [Tryz.underlying121]; rfl) Tryz.underlying2 k1
          clear h1 h2 h3 h4 hn ha lf e1 e2 e3 c1 c2 c3 k1 k2 k3 k4
          go_enter Tryz.func61, Tryz.ntmps61
          go_wp2_with (first | (go_at_call 91; go_in) | (go_at_call 101; go_in))
          go_ret2
          exact ⟨rfl, _, rfl⟩
        · rw [Bool.not_eq_true] at c3
          have t3 : (FloatKind.f64.format.order a 4890909195324358656 == some .lt) = false := e3.symm.trans c3
          rw [fint_no (by rw [c1, c2, c3]; rfl)]
          clear h1 h2 h3 h4 hn ha lf e1 e2 e3 c1 c2 c3
          go_enter Tryz.func61, Tryz.ntmps61
          go_wp2_with (first | (go_at_call 91; go_in) | (go_at_call 101; go_in))
          go_ret2
          exact ⟨rfl, _, rfl⟩
      · rw [Bool.not_eq_true] at c2
        have t2 : (FloatKind.f64.format.order a 14114281232179134464 == some .gt || FloatKind.f64.format.order a 14114281232179134464 == some .eq) = false := e2.symm.trans c2
        rw [fint_no (by rw [c1, c2]; rfl)]
        clear h1 h2 h3 h4 hn ha lf e1 e2 e3 c1 c2
        go_enter Tryz.func61, Tryz.ntmps61
        go_wp2_with (first | (go_at_call 91; go_in) | (go_at_call 101; go_in))
        go_ret2
        exact ⟨rfl, _, rfl⟩
    · rw [Bool.not_eq_true] at c1
      have t1 : (FloatKind.f64.format.order a (ffloor a) != some .eq) = true := by
        rw [c1] at e1
        exact (congrArg Bool.not e1.symm).trans rfl
      rw [fint_no (by rw [c1]; rfl)]
      clear h1 h2 h3 h4 hn ha lf e1 e2 e3 c1
      go_enter Tryz.func61, Tryz.ntmps61
      go_wp2_with (first | (go_at_call 91; go_in) | (go_at_call 101; go_in))
      go_ret2
      exact ⟨rfl, _, rfl⟩

end Go.Proofs.YtjloiclbknfomaaGreatDoor
