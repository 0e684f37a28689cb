/- (*gafferref02.Reader).number, and the calls that read a number. -/
import Derived.Test.YtcladlebmoefgaaRefForm
import Derived.Test.YtcladlebmoefgaaPlain
namespace Go.Proofs.Ytcladlebmoefgaa
open Go.RowKit

def NumRef (g off : Nat) (b : ByteArray) (p : Nat) (s : Nat × Nat × Int) (w : World) (x : Ending) (w' : World) : Prop :=
  x = .returned (.tuple #[.int .u64 (s.1 : Int), .int .i64 (s.2.1 : Int)]) ∧ Ref w' g off b p s.2.2 (fa s.2.2 p) ∧ Only4 w w' g off

theorem fa_zero (q : Nat) : fa 0 q = 0 := rfl

set_option maxHeartbeats 2000000 in
theorem number_ref (g off : Nat) (b : ByteArray) (p : Nat) (e : Int) (most : Nat) (over : Int) (w : World) (hR : Ref w g off b p e (fa e p)) (hp : p ≤ b.size) (hb : b.size < 4294967296) (_hm : most < 18446744073709551616) (ho : over ≠ 0) :
    Calls Try.prog 62 #[.pointer (some ⟨g, off, none⟩), .int .u64 (most : Int), .int .i64 over] w (NumRef g off b p (rdrStep 0 (numR (b.data.toList.drop p) most over) p e) w) := by
  have h0 := hR.c0
  have h1 := hR.c1
  have h2 := hR.c2
  by_cases he : e = 0
  · subst he
    rw [fa_zero] at hR
    have hcall := fun wx => form_any b p wx hp hb
    obtain ⟨L, hL⟩ : ∃ L, L = b.data.toList.drop p := ⟨_, rfl⟩
    rw [← hL] at hcall ⊢
    clear hL
    cases hr : rdv 0 0 L with
    | error c =>
      have hc := rdv_err L 0 0 c hr
      rw [hr] at hcall
      unfold formVal at hcall
      have hn : rdrStep 0 (numR L most over) p 0 = (0, p, c) := by rw [numR_bad hr]; rfl
      rw [hn]
      have hcb : (c == 0) = false := by rw [beq_eq_false_iff_ne]; exact hc
      have HCC := Lib.hid hcall
      clear hcall hn
      go_enter Try.func62, Try.ntmps62
      go_wp2
      go_quiet ((go_at_call 80; refine Calls.quiet_of (HCC.out _)))
      go_wp2_with fail
      refine (wrong_any g off b p c _ (hR.drewN _) hc).mono ?_
      rintro x w1 ⟨rfl, hR1, ho1⟩
      have h3 := hR1.c1
      go_wp2
      go_quiet (fail)
      go_wp2
      go_ret2
      exact ⟨rfl, hR1, only4_drewN (only4_trans (only4_drewN (only4_refl _ _ _) _) ho1) _⟩
    | ok nk =>
      obtain ⟨n, k⟩ := nk
      rw [hr] at hcall
      unfold formVal at hcall
      have HCC := Lib.hid hcall
      clear hcall
      by_cases hmn : n ≤ most
      · have hn : rdrStep 0 (numR L most over) p 0 = (n, p + k, 0) := by rw [numR_ok hr hmn]; rfl
        rw [hn]
        have hm1 : ¬ (most : Int) < n := by omega
        clear hn hr
        go_enter Try.func62, Try.ntmps62
        go_wp2
        go_quiet ((go_at_call 80; refine Calls.quiet_of (HCC.out _)))
        go_wp2
        go_ret2
        exact ⟨rfl, hR.drewN _, only4_drewN (only4_refl _ _ _) _⟩
      · have hn : rdrStep 0 (numR L most over) p 0 = (0, p, over) := by rw [numR_over hr (by omega)]; rfl
        rw [hn]
        have hm1 : (most : Int) < n := by omega
        clear hn hr
        go_enter Try.func62, Try.ntmps62
        go_wp2
        go_quiet ((go_at_call 80; refine Calls.quiet_of (HCC.out _)))
        go_wp2_with fail
        refine (wrong_any g off b p over _ (hR.drewN _) ho).mono ?_
        rintro x w1 ⟨rfl, hR1, ho1⟩
        have h3 := hR1.c1
        go_wp2
        go_quiet (fail)
        go_wp2
        go_ret2
        exact ⟨rfl, hR1, only4_drewN (only4_trans (only4_drewN (only4_refl _ _ _) _) ho1) _⟩
  · have hn : rdrStep 0 (numR (b.data.toList.drop p) most over) p e = (0, p, e) := if_pos he
    rw [hn]
    have hcb : (e == 0) = false := by rw [beq_eq_false_iff_ne]; exact he
    clear hn
    go_enter Try.func62, Try.ntmps62
    go_wp2
    go_quiet (fail)
    go_wp2
    go_ret2
    exact ⟨rfl, hR.drewN _, only4_drewN (only4_refl _ _ _) _⟩
end Go.Proofs.Ytcladlebmoefgaa
