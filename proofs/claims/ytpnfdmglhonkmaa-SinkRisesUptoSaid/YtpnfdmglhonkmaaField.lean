/- wire's fields as values: closures over boxes; what each answers. -/
import Derived.Test.YtpnfdmglhonkmaaMb
import Derived.Deep.QuietTactic
import Derived.BigQuiet
import Derived.Deep.RegionHeld3
set_option maxRecDepth 100000
namespace Go.Proofs.Ytpnfdmglhonkmaa
open Go.RowKit

def accI : Nat → Nat
  | 1 => 33
  | 2 => 34
  | 3 => 35
  | 4 => 36
  | 5 => 38
  | _ => 40
def accS : Nat → Nat
  | 9 => 42
  | _ => 43

theorem acc1_any (g : Nat) (w : World) : Calls Try.prog 33 #[.pointer (some ⟨g, 0, none⟩)] w fun e w' => e = .returned (.pointer (some ⟨g, 1, none⟩)) ∧ w = w' := by
  go_enter Try.func33, Try.ntmps33
  go_wp2
  go_ret
  exact ⟨rfl, rfl⟩

theorem acc1_same (g : Nat) (w : World) : Calls Try.prog 33 #[.pointer (some ⟨g, 0, none⟩)] w fun e w' => e = .returned (.pointer (some ⟨g, 1, none⟩)) ∧ w' = w := (acc1_any g w).mono fun _ _ h => ⟨h.1, h.2.symm⟩

theorem acc2_any (g : Nat) (w : World) : Calls Try.prog 34 #[.pointer (some ⟨g, 0, none⟩)] w fun e w' => e = .returned (.pointer (some ⟨g, 2, none⟩)) ∧ w = w' := by
  go_enter Try.func34, Try.ntmps34
  go_wp2
  go_ret
  exact ⟨rfl, rfl⟩

theorem acc2_same (g : Nat) (w : World) : Calls Try.prog 34 #[.pointer (some ⟨g, 0, none⟩)] w fun e w' => e = .returned (.pointer (some ⟨g, 2, none⟩)) ∧ w' = w := (acc2_any g w).mono fun _ _ h => ⟨h.1, h.2.symm⟩

theorem acc3_any (g : Nat) (w : World) : Calls Try.prog 35 #[.pointer (some ⟨g, 0, none⟩)] w fun e w' => e = .returned (.pointer (some ⟨g, 3, none⟩)) ∧ w = w' := by
  go_enter Try.func35, Try.ntmps35
  go_wp2
  go_ret
  exact ⟨rfl, rfl⟩

theorem acc3_same (g : Nat) (w : World) : Calls Try.prog 35 #[.pointer (some ⟨g, 0, none⟩)] w fun e w' => e = .returned (.pointer (some ⟨g, 3, none⟩)) ∧ w' = w := (acc3_any g w).mono fun _ _ h => ⟨h.1, h.2.symm⟩

theorem acc4_any (g : Nat) (w : World) : Calls Try.prog 36 #[.pointer (some ⟨g, 0, none⟩)] w fun e w' => e = .returned (.pointer (some ⟨g, 4, none⟩)) ∧ w = w' := by
  go_enter Try.func36, Try.ntmps36
  go_wp2
  go_ret
  exact ⟨rfl, rfl⟩

theorem acc4_same (g : Nat) (w : World) : Calls Try.prog 36 #[.pointer (some ⟨g, 0, none⟩)] w fun e w' => e = .returned (.pointer (some ⟨g, 4, none⟩)) ∧ w' = w := (acc4_any g w).mono fun _ _ h => ⟨h.1, h.2.symm⟩

theorem acc5_any (g : Nat) (w : World) : Calls Try.prog 38 #[.pointer (some ⟨g, 0, none⟩)] w fun e w' => e = .returned (.pointer (some ⟨g, 5, none⟩)) ∧ w = w' := by
  go_enter Try.func38, Try.ntmps38
  go_wp2
  go_ret
  exact ⟨rfl, rfl⟩

theorem acc5_same (g : Nat) (w : World) : Calls Try.prog 38 #[.pointer (some ⟨g, 0, none⟩)] w fun e w' => e = .returned (.pointer (some ⟨g, 5, none⟩)) ∧ w' = w := (acc5_any g w).mono fun _ _ h => ⟨h.1, h.2.symm⟩

theorem acc6_any (g : Nat) (w : World) : Calls Try.prog 40 #[.pointer (some ⟨g, 0, none⟩)] w fun e w' => e = .returned (.pointer (some ⟨g, 6, none⟩)) ∧ w = w' := by
  go_enter Try.func40, Try.ntmps40
  go_wp2
  go_ret
  exact ⟨rfl, rfl⟩

theorem acc6_same (g : Nat) (w : World) : Calls Try.prog 40 #[.pointer (some ⟨g, 0, none⟩)] w fun e w' => e = .returned (.pointer (some ⟨g, 6, none⟩)) ∧ w' = w := (acc6_any g w).mono fun _ _ h => ⟨h.1, h.2.symm⟩

theorem acc9_any (g : Nat) (w : World) : Calls Try.prog 42 #[.pointer (some ⟨g, 0, none⟩)] w fun e w' => e = .returned (.pointer (some ⟨g, 9, none⟩)) ∧ w = w' := by
  go_enter Try.func42, Try.ntmps42
  go_wp2
  go_ret
  exact ⟨rfl, rfl⟩

theorem acc9_same (g : Nat) (w : World) : Calls Try.prog 42 #[.pointer (some ⟨g, 0, none⟩)] w fun e w' => e = .returned (.pointer (some ⟨g, 9, none⟩)) ∧ w' = w := (acc9_any g w).mono fun _ _ h => ⟨h.1, h.2.symm⟩

theorem acc10_any (g : Nat) (w : World) : Calls Try.prog 43 #[.pointer (some ⟨g, 0, none⟩)] w fun e w' => e = .returned (.pointer (some ⟨g, 10, none⟩)) ∧ w = w' := by
  go_enter Try.func43, Try.ntmps43
  go_wp2
  go_ret
  exact ⟨rfl, rfl⟩

theorem acc10_same (g : Nat) (w : World) : Calls Try.prog 43 #[.pointer (some ⟨g, 0, none⟩)] w fun e w' => e = .returned (.pointer (some ⟨g, 10, none⟩)) ∧ w' = w := (acc10_any g w).mono fun _ _ h => ⟨h.1, h.2.symm⟩

theorem acc_int {w : World} {g : Nat} {m : Mg} (h : Ms w g m) {k : Nat} (h1 : 1 ≤ k) (h6 : k ≤ 6) : w.cell? ⟨g, k, none⟩ = some (.int .i64 (m.int k)) := by
  rcases (by omega : k = 1 ∨ k = 2 ∨ k = 3 ∨ k = 4 ∨ k = 5 ∨ k = 6) with rfl | rfl | rfl | rfl | rfl | rfl <;> exact h.cell rfl
theorem acc_str {w : World} {g : Nat} {m : Mg} (h : Ms w g m) {k : Nat} (h9 : k = 9 ∨ k = 10) : w.cell? ⟨g, k, none⟩ = some (.string (m.str k)) := by
  rcases h9 with rfl | rfl <;> exact h.cell rfl

set_option maxHeartbeats 4000000 in
theorem wholeMay (g b1 b2 b3 k : Nat) (l h : Int) (m : Mg) (w : World) (c1 : Cells w b1 96 #[.func (.func (accI k)) #[] #[]]) (c2 : Cells w b2 3 #[.int .i64 l]) (c3 : Cells w b3 3 #[.int .i64 h]) (hm : Ms w g m) (h1 : 1 ≤ k) (h6 : k ≤ 6) :
    Calls Try.prog 59 #[.pointer (some ⟨g, 0, none⟩), .pointer (some ⟨b1, 0, none⟩), .pointer (some ⟨b2, 0, none⟩), .pointer (some ⟨b3, 0, none⟩)] w fun e w' => e = .returned (.bool ((Fd.whole k l h).may m)) ∧ ∃ n, w' = w.drewN n := by
  have d1 := c1.cell (j := 0) rfl
  have d2 := c2.cell (j := 0) rfl
  have d3 := c3.cell (j := 0) rfl
  have d4 := acc_int hm h1 h6
  have hmay : (Fd.whole k l h).may m = (decide (l ≤ m.int k) && decide (m.int k ≤ h)) := rfl
  generalize (Fd.whole k l h).may m = R at hmay ⊢
  generalize m.int k = x at d4 hmay
  have HM := Lib.hid hmay
  clear hmay
  clear hm c1 c2 c3
  rcases (by omega : k = 1 ∨ k = 2 ∨ k = 3 ∨ k = 4 ∨ k = 5 ∨ k = 6) with rfl | rfl | rfl | rfl | rfl | rfl
  all_goals
    simp only [accI] at d1
    by_cases g1 : l ≤ x
    · have t1 : decide (l ≤ x) = true := decide_eq_true g1
      by_cases g2 : x ≤ h
      · have t2 : decide (x ≤ h) = true := decide_eq_true g2
        have hR : R = true := by rw [HM.out, t1, t2]; rfl
        have HR := Lib.hid hR
        clear hR
        go_enter Try.func59, Try.ntmps59
        go_wp2_with fail
        go_quiet ((first | (go_at_call 33; exact Calls.quiet_of_same (acc1_same _ _)) | (go_at_call 34; exact Calls.quiet_of_same (acc2_same _ _)) | (go_at_call 35; exact Calls.quiet_of_same (acc3_same _ _)) | (go_at_call 36; exact Calls.quiet_of_same (acc4_same _ _)) | (go_at_call 38; exact Calls.quiet_of_same (acc5_same _ _)) | (go_at_call 40; exact Calls.quiet_of_same (acc6_same _ _))))
        go_wp2
        go_ret
        exact ⟨by rw [HR.out]; rfl, _, rfl⟩
      · have t2 : decide (x ≤ h) = false := decide_eq_false g2
        have hR : R = false := by rw [HM.out, t1, t2]; rfl
        have HR := Lib.hid hR
        clear hR
        go_enter Try.func59, Try.ntmps59
        go_wp2_with fail
        go_quiet ((first | (go_at_call 33; exact Calls.quiet_of_same (acc1_same _ _)) | (go_at_call 34; exact Calls.quiet_of_same (acc2_same _ _)) | (go_at_call 35; exact Calls.quiet_of_same (acc3_same _ _)) | (go_at_call 36; exact Calls.quiet_of_same (acc4_same _ _)) | (go_at_call 38; exact Calls.quiet_of_same (acc5_same _ _)) | (go_at_call 40; exact Calls.quiet_of_same (acc6_same _ _))))
        go_wp2
        go_ret
        exact ⟨by rw [HR.out]; rfl, _, rfl⟩
    · have t1 : decide (l ≤ x) = false := decide_eq_false g1
      have hR : R = false := by rw [HM.out, t1]; rfl
      have HR := Lib.hid hR
      clear hR
      go_enter Try.func59, Try.ntmps59
      go_wp2_with fail
      go_quiet ((first | (go_at_call 33; exact Calls.quiet_of_same (acc1_same _ _)) | (go_at_call 34; exact Calls.quiet_of_same (acc2_same _ _)) | (go_at_call 35; exact Calls.quiet_of_same (acc3_same _ _)) | (go_at_call 36; exact Calls.quiet_of_same (acc4_same _ _)) | (go_at_call 38; exact Calls.quiet_of_same (acc5_same _ _)) | (go_at_call 40; exact Calls.quiet_of_same (acc6_same _ _))))
      go_wp2
      go_ret
      exact ⟨by rw [HR.out]; rfl, _, rfl⟩

set_option maxHeartbeats 4000000 in
theorem textMay (g b1 b2 b3 k : Nat) (l h : Int) (m : Mg) (w : World) (c1 : Cells w b1 100 #[.func (.func (accS k)) #[] #[]]) (c2 : Cells w b2 3 #[.int .i64 l]) (c3 : Cells w b3 3 #[.int .i64 h]) (hm : Ms w g m) (hk : k = 9 ∨ k = 10) (hs : (m.str k).size < 1073741824) :
    Calls Try.prog 62 #[.pointer (some ⟨g, 0, none⟩), .pointer (some ⟨b1, 0, none⟩), .pointer (some ⟨b2, 0, none⟩), .pointer (some ⟨b3, 0, none⟩)] w fun e w' => e = .returned (.bool ((Fd.text k l h).may m)) ∧ ∃ n, w' = w.drewN n := by
  have d1 := c1.cell (j := 0) rfl
  have d2 := c2.cell (j := 0) rfl
  have d3 := c3.cell (j := 0) rfl
  have d4 := acc_str hm hk
  have hmay : (Fd.text k l h).may m = (decide (l ≤ (m.str k).size) && decide (((m.str k).size : Int) ≤ h)) := rfl
  generalize (Fd.text k l h).may m = R at hmay ⊢
  generalize m.str k = s at d4 hmay hs
  have HM := Lib.hid hmay
  clear hmay
  clear hm c1 c2 c3
  rcases hk with rfl | rfl
  all_goals
    simp only [accS] at d1
    by_cases g1 : l ≤ (s.size : Int)
    · have t1 : decide (l ≤ (s.size : Int)) = true := decide_eq_true g1
      by_cases g2 : (s.size : Int) ≤ h
      · have t2 : decide ((s.size : Int) ≤ h) = true := decide_eq_true g2
        have hR : R = true := by rw [HM.out, t1, t2]; rfl
        have HR := Lib.hid hR
        clear hR
        go_enter Try.func62, Try.ntmps62
        go_wp2_with fail
        go_quiet ((first | (go_at_call 42; exact Calls.quiet_of_same (acc9_same _ _)) | (go_at_call 43; exact Calls.quiet_of_same (acc10_same _ _))))
        go_wp2
        go_ret
        exact ⟨by rw [HR.out]; rfl, _, rfl⟩
      · have t2 : decide ((s.size : Int) ≤ h) = false := decide_eq_false g2
        have hR : R = false := by rw [HM.out, t1, t2]; rfl
        have HR := Lib.hid hR
        clear hR
        go_enter Try.func62, Try.ntmps62
        go_wp2_with fail
        go_quiet ((first | (go_at_call 42; exact Calls.quiet_of_same (acc9_same _ _)) | (go_at_call 43; exact Calls.quiet_of_same (acc10_same _ _))))
        go_wp2
        go_ret
        exact ⟨by rw [HR.out]; rfl, _, rfl⟩
    · have t1 : decide (l ≤ (s.size : Int)) = false := decide_eq_false g1
      have hR : R = false := by rw [HM.out, t1]; rfl
      have HR := Lib.hid hR
      clear hR
      go_enter Try.func62, Try.ntmps62
      go_wp2_with fail
      go_quiet ((first | (go_at_call 42; exact Calls.quiet_of_same (acc9_same _ _)) | (go_at_call 43; exact Calls.quiet_of_same (acc10_same _ _))))
      go_wp2
      go_ret
      exact ⟨by rw [HR.out]; rfl, _, rfl⟩

end Go.Proofs.Ytpnfdmglhonkmaa
