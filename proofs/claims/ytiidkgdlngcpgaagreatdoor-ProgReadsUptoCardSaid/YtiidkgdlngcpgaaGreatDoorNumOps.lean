/- Package num's functions: what each answers (contracts). -/
import Derived.Test.YtiidkgdlngcpgaaGreatDoorFl
import Derived.Test.YtiidkgdlngcpgaaGreatDoorNb
set_option maxRecDepth 100000
namespace Go.Proofs.YtiidkgdlngcpgaaGreatDoor
open Go.RowKit Ieee

/-- a call that answers v and leaves the world as it was, but for what it draws -/
abbrev Told (f : FuncId) (args : Array Value) (v : Value) : Prop := ∀ w : World, Calls Tryz.prog f args w fun e w' => e = .returned v ∧ ∃ n, w' = w.drewN n

theorem Told.to {f : FuncId} {args : Array Value} {v u : Value} (h : Told f args v) (e : v = u) : Told f args u := e ▸ h

theorem and_frac {a : Nat} (ha : a < 2 * signB) : bits .and .u64 (a : Int) 4503599627370495 = ((a % 4503599627370496 : Nat) : Int) := by
  have h1 := u64_and_nat a 4503599627370495 (by unfold signB at ha; omega) (by decide)
  have h2 : a &&& 4503599627370495 = a % 4503599627370496 := Nat.and_two_pow_sub_one_eq_mod a 52
  rw [h2] at h1
  exact h1

theorem raw_any (b : Nat) : Told 92 #[.float .f64 b] (.int .u64 ((fcan b : Nat) : Int)) := by
  intro w
  have hf := frombits_run
  have hb := bits_run
  have hcan : fcan b = if 9218868437227405312 < b % 9223372036854775808 then 9221120237041090561 else b := by
    unfold fcan isN nanB infB signB
    simp
  have HC := Lib.hid hcan
  clear hcan
  by_cases c : 9218868437227405312 < b % 9223372036854775808
  · have t := decide_eq_true c
    go_enter Tryz.func92, Tryz.ntmps92
    go_wp2_with (first | (go_at_call 66; refine (isnan_any _ _).mono ?_; rintro x w0 ⟨rfl, rfl⟩) | (go_at_call 109; go_in))
    go_ret
    exact ⟨by rw [HC.out, if_pos c]; rfl, 0, rfl⟩
  · have t := decide_eq_false c
    go_enter Tryz.func92, Tryz.ntmps92
    go_wp2_with (first | (go_at_call 66; refine (isnan_any _ _).mono ?_; rintro x w0 ⟨rfl, rfl⟩) | (go_at_call 109; go_in))
    go_ret
    exact ⟨by rw [HC.out, if_neg c]; rfl, 0, rfl⟩







theorem mabs_any {a : Nat} (ha : a < 2 * signB) (w : World) : Calls Tryz.prog 69 #[.float .f64 a] w fun e w' => e = .returned (.float .f64 (a % signB)) ∧ w = w' := by
  have hfb := frombits_run
  have hb := bits_run
  have hA := andNot_sign a (by unfold signB at ha; omega)
  clear ha
  go_enter Tryz.func69, Tryz.ntmps69
  go_wp2
  go_ret
  exact ⟨by unfold signB; simp, rfl⟩





theorem canon_is {a : Nat} (ha : a < 2 * signB) : Told 58 #[.int .u64 (a : Nat)] (.int .u64 ((fcan a : Nat) : Int)) := by
  intro w
  refine (canon_any (a : Int) w (by omega) (by unfold signB at ha; omega)).mono ?_
  rintro x w0 ⟨rfl, rfl⟩
  refine ⟨?_, 0, rfl⟩
  have : canon (a : Int) = ((fcan a : Nat) : Int) := by
    unfold canon fcan isN nanB infB signB
    by_cases c : 9218868437227405312 < a % 9223372036854775808
    · rw [if_pos (by omega), decide_eq_true c, if_pos rfl]
      rfl
    · rw [if_neg (by omega), decide_eq_false c, if_neg (by decide)]
  rw [this]

theorem class_run {b : Nat} (hb : b < signB) (w : World) : (FloatKind.f64.format.order b 9218868437227405311 == some .gt) = decide (b = 9218868437227405312) ∧ (FloatKind.f64.format.order b 0 == some .eq) = decide (b = 0) ∧ (FloatKind.f64.format.order b 4503599627370496 == some .lt) = decide (b < 4503599627370496) := by
  refine ⟨gt_max hb, ?_, lt_tiny hb⟩
  have h := eq_zero (b := b) (by omega)
  rw [Nat.mod_eq_of_lt hb] at h
  exact h






end Go.Proofs.YtiidkgdlngcpgaaGreatDoor
