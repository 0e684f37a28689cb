/- NumCounts: whole numbers reckon as they should, as a row and as a card. No condition. -/
import Derived.Test.YthbdgdapchplgaaDoorNumRow
set_option maxRecDepth 100000
namespace Go.Proofs.YthbdgdapchplgaaDoor.numCounts
open Go.RowKit Go.WideShapes Go.ChangeShapes Go.ChangeAt
open Go.ChangeMaps (open_string shut_string)

set_option maxHeartbeats 2000000 in
set_option maxRecDepth 100000 in
theorem walk (a : Nat) (n : Int) (m : Int) (w : World) (hT : w.cell? TA = some (.int .u8 50)) (ha : a < 2 * signB) (hn0 : -9223372036854775808 ≤ n) (hn1 : n ≤ 9223372036854775807) (hm0 : -9223372036854775808 ≤ m) (hm1 : m ≤ 9223372036854775807) :
    Calls Tryd.prog 11 #[.int .u64 (a : Nat), .int .i64 n, .int .i64 m] w fun e w' => e = .returned (.bool true) ∧ Below w.heap.size w w' := by
  have k1 := int_any ha
  cases hi : fint a with
  | none =>
    have e1 : fintR a = (0, 11) := by
      unfold fintR
      rw [hi]
    rw [e1] at k1
    by_cases n1 : n < -33554432
    · go_enter Tryd.func11, Tryd.ntmps11
      go_wp2_with (first | (go_at_call 14; (first | (refine (awake_any _ hT).mono ?_) | (refine (awake_any _ (cell_keeps (grow_drewN _ _) hT)).mono ?_)); rintro _ _ ⟨rfl, hbel⟩) | (go_at_call 29; first | (with_reducible (refine (k1 _).mono ?_); rintro _ _ ⟨rfl, _, rfl⟩)))
      all_goals first | (go_ret; refine ⟨rfl, ?_⟩; (repeat (refine below_drewN ?_ _)); first | exact hbel | exact grow_from hbel | exact Below.refl _ _) | (exfalso; simp_all; done) | (exfalso; simp_all; omega)
    by_cases n2 : (33554432 : Int) < n
    · go_enter Tryd.func11, Tryd.ntmps11
      go_wp2_with (first | (go_at_call 14; (first | (refine (awake_any _ hT).mono ?_) | (refine (awake_any _ (cell_keeps (grow_drewN _ _) hT)).mono ?_)); rintro _ _ ⟨rfl, hbel⟩) | (go_at_call 29; first | (with_reducible (refine (k1 _).mono ?_); rintro _ _ ⟨rfl, _, rfl⟩)))
      all_goals first | (go_ret; refine ⟨rfl, ?_⟩; (repeat (refine below_drewN ?_ _)); first | exact hbel | exact grow_from hbel | exact Below.refl _ _) | (exfalso; simp_all; done) | (exfalso; simp_all; omega)
    by_cases m1 : m < -33554432
    · go_enter Tryd.func11, Tryd.ntmps11
      go_wp2_with (first | (go_at_call 14; (first | (refine (awake_any _ hT).mono ?_) | (refine (awake_any _ (cell_keeps (grow_drewN _ _) hT)).mono ?_)); rintro _ _ ⟨rfl, hbel⟩) | (go_at_call 29; first | (with_reducible (refine (k1 _).mono ?_); rintro _ _ ⟨rfl, _, rfl⟩)))
      all_goals first | (go_ret; refine ⟨rfl, ?_⟩; (repeat (refine below_drewN ?_ _)); first | exact hbel | exact grow_from hbel | exact Below.refl _ _) | (exfalso; simp_all; done) | (exfalso; simp_all; omega)
    by_cases m2 : (33554432 : Int) < m
    · go_enter Tryd.func11, Tryd.ntmps11
      go_wp2_with (first | (go_at_call 14; (first | (refine (awake_any _ hT).mono ?_) | (refine (awake_any _ (cell_keeps (grow_drewN _ _) hT)).mono ?_)); rintro _ _ ⟨rfl, hbel⟩) | (go_at_call 29; first | (with_reducible (refine (k1 _).mono ?_); rintro _ _ ⟨rfl, _, rfl⟩)))
      all_goals first | (go_ret; refine ⟨rfl, ?_⟩; (repeat (refine below_drewN ?_ _)); first | exact hbel | exact grow_from hbel | exact Below.refl _ _) | (exfalso; simp_all; done) | (exfalso; simp_all; omega)
    have hnm := counts (n := n) (m := m) ⟨by omega, by omega⟩ ⟨by omega, by omega⟩
    have q1 := of_any hn0 hn1
    have q2 := of_any hm0 hm1
    have q3 := add_any (fof_lt n) (fof_lt m)
    have q4 := int_any (fadd_lt (fof n) (fof m)).1
    rw [fint_yes hnm.1] at q4
    have q5 := mul_any (fof_lt n) (fof_lt m)
    have q6 := int_any (fmul_lt (fof n) (fof m)).1
    rw [fint_yes hnm.2.1] at q6
    have q7 := less_any (fof_lt n) (fof_lt m)
    rw [hnm.2.2] at q7
    clear hnm
    have hw1 : IntKind.i64.wrap (n + m) = n + m := by
      rw [IntKind.wrap_i64]
      omega
    have hw2 : IntKind.i64.wrap (n * m) = n * m := wrap_small n m ⟨by omega, by omega⟩ ⟨by omega, by omega⟩
    have hw3 : wrap64 (n * m) = n * m := by
      unfold wrap64
      rw [← IntKind.wrap_i64]
      exact hw2
    obtain ⟨E, hvE⟩ : ∃ z0 : Int, z0 = ((fmul (fof n) (fof m) : Nat) : Int) := ⟨_, rfl⟩
    rw [← hvE] at q5 q6
    clear hvE
    obtain ⟨F, hvF⟩ : ∃ z0 : Int, z0 = ((fadd (fof n) (fof m) : Nat) : Int) := ⟨_, rfl⟩
    rw [← hvF] at q3 q4
    clear hvF
    obtain ⟨X, hvX⟩ : ∃ z0 : Int, z0 = ((fof n : Nat) : Int) := ⟨_, rfl⟩
    rw [← hvX] at q1 q3 q5 q7
    clear hvX
    obtain ⟨Y, hvY⟩ : ∃ z0 : Int, z0 = ((fof m : Nat) : Int) := ⟨_, rfl⟩
    rw [← hvY] at q2 q3 q5 q7
    clear hvY
    go_enter Tryd.func11, Tryd.ntmps11
    go_wp2_with (first | (go_at_call 14; (first | (refine (awake_any _ hT).mono ?_) | (refine (awake_any _ (cell_keeps (grow_drewN _ _) hT)).mono ?_)); rintro _ _ ⟨rfl, hbel⟩) | (go_at_call 29; first | (with_reducible (refine (k1 _).mono ?_); rintro _ _ ⟨rfl, _, rfl⟩) | (with_reducible (refine (q4 _).mono ?_); rintro _ _ ⟨rfl, _, rfl⟩) | (with_reducible (refine (q6 _).mono ?_); rintro _ _ ⟨rfl, _, rfl⟩)) | (go_at_call 30; first | (with_reducible (refine (q1 _).mono ?_); rintro _ _ ⟨rfl, _, rfl⟩) | (with_reducible (refine (q2 _).mono ?_); rintro _ _ ⟨rfl, _, rfl⟩)) | (go_at_call 22; first | (with_reducible (refine (q3 _).mono ?_); rintro _ _ ⟨rfl, _, rfl⟩)) | (go_at_call 23; first | (with_reducible (refine (q5 _).mono ?_); rintro _ _ ⟨rfl, _, rfl⟩)) | (go_at_call 15; first | (with_reducible (refine (q7 _).mono ?_); rintro _ _ ⟨rfl, _, rfl⟩)))
    all_goals first | (go_ret; refine ⟨rfl, ?_⟩; (repeat (refine below_drewN ?_ _)); first | exact hbel | exact grow_from hbel | exact Below.refl _ _) | (exfalso; simp_all; done) | (exfalso; simp_all; omega)
  | some x =>
    rw [fint_yes hi] at k1
    obtain ⟨_, _, x0, x1⟩ := fint_back ha hi
    have k2 := abs_any ha
    by_cases c : ((fabs a : Nat) : Int) ≤ 4845873199050653696
    · have k3 := of_any x0 (by omega : x ≤ 9223372036854775807)
      have k4 := equal_any (fof_lt x) ha
      rw [counts_back ha hi] at k4
      clear hi
      obtain ⟨B, hvB⟩ : ∃ z0 : Int, z0 = ((fabs a : Nat) : Int) := ⟨_, rfl⟩
      rw [← hvB] at k2 c
      clear hvB
      obtain ⟨G, hvG⟩ : ∃ z0 : Int, z0 = ((fof x : Nat) : Int) := ⟨_, rfl⟩
      rw [← hvG] at k3 k4
      clear hvG
      by_cases n1 : n < -33554432
      · go_enter Tryd.func11, Tryd.ntmps11
        go_wp2_with (first | (go_at_call 14; (first | (refine (awake_any _ hT).mono ?_) | (refine (awake_any _ (cell_keeps (grow_drewN _ _) hT)).mono ?_)); rintro _ _ ⟨rfl, hbel⟩) | (go_at_call 29; first | (with_reducible (refine (k1 _).mono ?_); rintro _ _ ⟨rfl, _, rfl⟩)) | (go_at_call 28; first | (with_reducible (refine (k2 _).mono ?_); rintro _ _ ⟨rfl, _, rfl⟩)) | (go_at_call 30; first | (with_reducible (refine (k3 _).mono ?_); rintro _ _ ⟨rfl, _, rfl⟩)) | (go_at_call 17; first | (with_reducible (refine (k4 _).mono ?_); rintro _ _ ⟨rfl, _, rfl⟩)))
        all_goals first | (go_ret; refine ⟨rfl, ?_⟩; (repeat (refine below_drewN ?_ _)); first | exact hbel | exact grow_from hbel | exact Below.refl _ _) | (exfalso; simp_all; done) | (exfalso; simp_all; omega)
      by_cases n2 : (33554432 : Int) < n
      · go_enter Tryd.func11, Tryd.ntmps11
        go_wp2_with (first | (go_at_call 14; (first | (refine (awake_any _ hT).mono ?_) | (refine (awake_any _ (cell_keeps (grow_drewN _ _) hT)).mono ?_)); rintro _ _ ⟨rfl, hbel⟩) | (go_at_call 29; first | (with_reducible (refine (k1 _).mono ?_); rintro _ _ ⟨rfl, _, rfl⟩)) | (go_at_call 28; first | (with_reducible (refine (k2 _).mono ?_); rintro _ _ ⟨rfl, _, rfl⟩)) | (go_at_call 30; first | (with_reducible (refine (k3 _).mono ?_); rintro _ _ ⟨rfl, _, rfl⟩)) | (go_at_call 17; first | (with_reducible (refine (k4 _).mono ?_); rintro _ _ ⟨rfl, _, rfl⟩)))
        all_goals first | (go_ret; refine ⟨rfl, ?_⟩; (repeat (refine below_drewN ?_ _)); first | exact hbel | exact grow_from hbel | exact Below.refl _ _) | (exfalso; simp_all; done) | (exfalso; simp_all; omega)
      by_cases m1 : m < -33554432
      · go_enter Tryd.func11, Tryd.ntmps11
        go_wp2_with (first | (go_at_call 14; (first | (refine (awake_any _ hT).mono ?_) | (refine (awake_any _ (cell_keeps (grow_drewN _ _) hT)).mono ?_)); rintro _ _ ⟨rfl, hbel⟩) | (go_at_call 29; first | (with_reducible (refine (k1 _).mono ?_); rintro _ _ ⟨rfl, _, rfl⟩)) | (go_at_call 28; first | (with_reducible (refine (k2 _).mono ?_); rintro _ _ ⟨rfl, _, rfl⟩)) | (go_at_call 30; first | (with_reducible (refine (k3 _).mono ?_); rintro _ _ ⟨rfl, _, rfl⟩)) | (go_at_call 17; first | (with_reducible (refine (k4 _).mono ?_); rintro _ _ ⟨rfl, _, rfl⟩)))
        all_goals first | (go_ret; refine ⟨rfl, ?_⟩; (repeat (refine below_drewN ?_ _)); first | exact hbel | exact grow_from hbel | exact Below.refl _ _) | (exfalso; simp_all; done) | (exfalso; simp_all; omega)
      by_cases m2 : (33554432 : Int) < m
      · go_enter Tryd.func11, Tryd.ntmps11
        go_wp2_with (first | (go_at_call 14; (first | (refine (awake_any _ hT).mono ?_) | (refine (awake_any _ (cell_keeps (grow_drewN _ _) hT)).mono ?_)); rintro _ _ ⟨rfl, hbel⟩) | (go_at_call 29; first | (with_reducible (refine (k1 _).mono ?_); rintro _ _ ⟨rfl, _, rfl⟩)) | (go_at_call 28; first | (with_reducible (refine (k2 _).mono ?_); rintro _ _ ⟨rfl, _, rfl⟩)) | (go_at_call 30; first | (with_reducible (refine (k3 _).mono ?_); rintro _ _ ⟨rfl, _, rfl⟩)) | (go_at_call 17; first | (with_reducible (refine (k4 _).mono ?_); rintro _ _ ⟨rfl, _, rfl⟩)))
        all_goals first | (go_ret; refine ⟨rfl, ?_⟩; (repeat (refine below_drewN ?_ _)); first | exact hbel | exact grow_from hbel | exact Below.refl _ _) | (exfalso; simp_all; done) | (exfalso; simp_all; omega)
      have hnm := counts (n := n) (m := m) ⟨by omega, by omega⟩ ⟨by omega, by omega⟩
      have q1 := of_any hn0 hn1
      have q2 := of_any hm0 hm1
      have q3 := add_any (fof_lt n) (fof_lt m)
      have q4 := int_any (fadd_lt (fof n) (fof m)).1
      rw [fint_yes hnm.1] at q4
      have q5 := mul_any (fof_lt n) (fof_lt m)
      have q6 := int_any (fmul_lt (fof n) (fof m)).1
      rw [fint_yes hnm.2.1] at q6
      have q7 := less_any (fof_lt n) (fof_lt m)
      rw [hnm.2.2] at q7
      clear hnm
      have hw1 : IntKind.i64.wrap (n + m) = n + m := by
        rw [IntKind.wrap_i64]
        omega
      have hw2 : IntKind.i64.wrap (n * m) = n * m := wrap_small n m ⟨by omega, by omega⟩ ⟨by omega, by omega⟩
      have hw3 : wrap64 (n * m) = n * m := by
        unfold wrap64
        rw [← IntKind.wrap_i64]
        exact hw2
      obtain ⟨E, hvE⟩ : ∃ z0 : Int, z0 = ((fmul (fof n) (fof m) : Nat) : Int) := ⟨_, rfl⟩
      rw [← hvE] at q5 q6
      clear hvE
      obtain ⟨F, hvF⟩ : ∃ z0 : Int, z0 = ((fadd (fof n) (fof m) : Nat) : Int) := ⟨_, rfl⟩
      rw [← hvF] at q3 q4
      clear hvF
      obtain ⟨X, hvX⟩ : ∃ z0 : Int, z0 = ((fof n : Nat) : Int) := ⟨_, rfl⟩
      rw [← hvX] at q1 q3 q5 q7
      clear hvX
      obtain ⟨Y, hvY⟩ : ∃ z0 : Int, z0 = ((fof m : Nat) : Int) := ⟨_, rfl⟩
      rw [← hvY] at q2 q3 q5 q7
      clear hvY
      go_enter Tryd.func11, Tryd.ntmps11
      go_wp2_with (first | (go_at_call 14; (first | (refine (awake_any _ hT).mono ?_) | (refine (awake_any _ (cell_keeps (grow_drewN _ _) hT)).mono ?_)); rintro _ _ ⟨rfl, hbel⟩) | (go_at_call 29; first | (with_reducible (refine (k1 _).mono ?_); rintro _ _ ⟨rfl, _, rfl⟩) | (with_reducible (refine (q4 _).mono ?_); rintro _ _ ⟨rfl, _, rfl⟩) | (with_reducible (refine (q6 _).mono ?_); rintro _ _ ⟨rfl, _, rfl⟩)) | (go_at_call 28; first | (with_reducible (refine (k2 _).mono ?_); rintro _ _ ⟨rfl, _, rfl⟩)) | (go_at_call 30; first | (with_reducible (refine (k3 _).mono ?_); rintro _ _ ⟨rfl, _, rfl⟩) | (with_reducible (refine (q1 _).mono ?_); rintro _ _ ⟨rfl, _, rfl⟩) | (with_reducible (refine (q2 _).mono ?_); rintro _ _ ⟨rfl, _, rfl⟩)) | (go_at_call 17; first | (with_reducible (refine (k4 _).mono ?_); rintro _ _ ⟨rfl, _, rfl⟩)) | (go_at_call 22; first | (with_reducible (refine (q3 _).mono ?_); rintro _ _ ⟨rfl, _, rfl⟩)) | (go_at_call 23; first | (with_reducible (refine (q5 _).mono ?_); rintro _ _ ⟨rfl, _, rfl⟩)) | (go_at_call 15; first | (with_reducible (refine (q7 _).mono ?_); rintro _ _ ⟨rfl, _, rfl⟩)))
      all_goals first | (go_ret; refine ⟨rfl, ?_⟩; (repeat (refine below_drewN ?_ _)); first | exact hbel | exact grow_from hbel | exact Below.refl _ _) | (exfalso; simp_all; done) | (exfalso; simp_all; omega)
    · clear hi
      obtain ⟨B, hvB⟩ : ∃ z0 : Int, z0 = ((fabs a : Nat) : Int) := ⟨_, rfl⟩
      rw [← hvB] at k2 c
      clear hvB
      by_cases n1 : n < -33554432
      · go_enter Tryd.func11, Tryd.ntmps11
        go_wp2_with (first | (go_at_call 14; (first | (refine (awake_any _ hT).mono ?_) | (refine (awake_any _ (cell_keeps (grow_drewN _ _) hT)).mono ?_)); rintro _ _ ⟨rfl, hbel⟩) | (go_at_call 29; first | (with_reducible (refine (k1 _).mono ?_); rintro _ _ ⟨rfl, _, rfl⟩)) | (go_at_call 28; first | (with_reducible (refine (k2 _).mono ?_); rintro _ _ ⟨rfl, _, rfl⟩)))
        all_goals first | (go_ret; refine ⟨rfl, ?_⟩; (repeat (refine below_drewN ?_ _)); first | exact hbel | exact grow_from hbel | exact Below.refl _ _) | (exfalso; simp_all; done) | (exfalso; simp_all; omega)
      by_cases n2 : (33554432 : Int) < n
      · go_enter Tryd.func11, Tryd.ntmps11
        go_wp2_with (first | (go_at_call 14; (first | (refine (awake_any _ hT).mono ?_) | (refine (awake_any _ (cell_keeps (grow_drewN _ _) hT)).mono ?_)); rintro _ _ ⟨rfl, hbel⟩) | (go_at_call 29; first | (with_reducible (refine (k1 _).mono ?_); rintro _ _ ⟨rfl, _, rfl⟩)) | (go_at_call 28; first | (with_reducible (refine (k2 _).mono ?_); rintro _ _ ⟨rfl, _, rfl⟩)))
        all_goals first | (go_ret; refine ⟨rfl, ?_⟩; (repeat (refine below_drewN ?_ _)); first | exact hbel | exact grow_from hbel | exact Below.refl _ _) | (exfalso; simp_all; done) | (exfalso; simp_all; omega)
      by_cases m1 : m < -33554432
      · go_enter Tryd.func11, Tryd.ntmps11
        go_wp2_with (first | (go_at_call 14; (first | (refine (awake_any _ hT).mono ?_) | (refine (awake_any _ (cell_keeps (grow_drewN _ _) hT)).mono ?_)); rintro _ _ ⟨rfl, hbel⟩) | (go_at_call 29; first | (with_reducible (refine (k1 _).mono ?_); rintro _ _ ⟨rfl, _, rfl⟩)) | (go_at_call 28; first | (with_reducible (refine (k2 _).mono ?_); rintro _ _ ⟨rfl, _, rfl⟩)))
        all_goals first | (go_ret; refine ⟨rfl, ?_⟩; (repeat (refine below_drewN ?_ _)); first | exact hbel | exact grow_from hbel | exact Below.refl _ _) | (exfalso; simp_all; done) | (exfalso; simp_all; omega)
      by_cases m2 : (33554432 : Int) < m
      · go_enter Tryd.func11, Tryd.ntmps11
        go_wp2_with (first | (go_at_call 14; (first | (refine (awake_any _ hT).mono ?_) | (refine (awake_any _ (cell_keeps (grow_drewN _ _) hT)).mono ?_)); rintro _ _ ⟨rfl, hbel⟩) | (go_at_call 29; first | (with_reducible (refine (k1 _).mono ?_); rintro _ _ ⟨rfl, _, rfl⟩)) | (go_at_call 28; first | (with_reducible (refine (k2 _).mono ?_); rintro _ _ ⟨rfl, _, rfl⟩)))
        all_goals first | (go_ret; refine ⟨rfl, ?_⟩; (repeat (refine below_drewN ?_ _)); first | exact hbel | exact grow_from hbel | exact Below.refl _ _) | (exfalso; simp_all; done) | (exfalso; simp_all; omega)
      have hnm := counts (n := n) (m := m) ⟨by omega, by omega⟩ ⟨by omega, by omega⟩
      have q1 := of_any hn0 hn1
      have q2 := of_any hm0 hm1
      have q3 := add_any (fof_lt n) (fof_lt m)
      have q4 := int_any (fadd_lt (fof n) (fof m)).1
      rw [fint_yes hnm.1] at q4
      have q5 := mul_any (fof_lt n) (fof_lt m)
      have q6 := int_any (fmul_lt (fof n) (fof m)).1
      rw [fint_yes hnm.2.1] at q6
      have q7 := less_any (fof_lt n) (fof_lt m)
      rw [hnm.2.2] at q7
      clear hnm
      have hw1 : IntKind.i64.wrap (n + m) = n + m := by
        rw [IntKind.wrap_i64]
        omega
      have hw2 : IntKind.i64.wrap (n * m) = n * m := wrap_small n m ⟨by omega, by omega⟩ ⟨by omega, by omega⟩
      have hw3 : wrap64 (n * m) = n * m := by
        unfold wrap64
        rw [← IntKind.wrap_i64]
        exact hw2
      obtain ⟨E, hvE⟩ : ∃ z0 : Int, z0 = ((fmul (fof n) (fof m) : Nat) : Int) := ⟨_, rfl⟩
      rw [← hvE] at q5 q6
      clear hvE
      obtain ⟨F, hvF⟩ : ∃ z0 : Int, z0 = ((fadd (fof n) (fof m) : Nat) : Int) := ⟨_, rfl⟩
      rw [← hvF] at q3 q4
      clear hvF
      obtain ⟨X, hvX⟩ : ∃ z0 : Int, z0 = ((fof n : Nat) : Int) := ⟨_, rfl⟩
      rw [← hvX] at q1 q3 q5 q7
      clear hvX
      obtain ⟨Y, hvY⟩ : ∃ z0 : Int, z0 = ((fof m : Nat) : Int) := ⟨_, rfl⟩
      rw [← hvY] at q2 q3 q5 q7
      clear hvY
      go_enter Tryd.func11, Tryd.ntmps11
      go_wp2_with (first | (go_at_call 14; (first | (refine (awake_any _ hT).mono ?_) | (refine (awake_any _ (cell_keeps (grow_drewN _ _) hT)).mono ?_)); rintro _ _ ⟨rfl, hbel⟩) | (go_at_call 29; first | (with_reducible (refine (k1 _).mono ?_); rintro _ _ ⟨rfl, _, rfl⟩) | (with_reducible (refine (q4 _).mono ?_); rintro _ _ ⟨rfl, _, rfl⟩) | (with_reducible (refine (q6 _).mono ?_); rintro _ _ ⟨rfl, _, rfl⟩)) | (go_at_call 28; first | (with_reducible (refine (k2 _).mono ?_); rintro _ _ ⟨rfl, _, rfl⟩)) | (go_at_call 30; first | (with_reducible (refine (q1 _).mono ?_); rintro _ _ ⟨rfl, _, rfl⟩) | (with_reducible (refine (q2 _).mono ?_); rintro _ _ ⟨rfl, _, rfl⟩)) | (go_at_call 22; first | (with_reducible (refine (q3 _).mono ?_); rintro _ _ ⟨rfl, _, rfl⟩)) | (go_at_call 23; first | (with_reducible (refine (q5 _).mono ?_); rintro _ _ ⟨rfl, _, rfl⟩)) | (go_at_call 15; first | (with_reducible (refine (q7 _).mono ?_); rintro _ _ ⟨rfl, _, rfl⟩)))
      all_goals first | (go_ret; refine ⟨rfl, ?_⟩; (repeat (refine below_drewN ?_ _)); first | exact hbel | exact grow_from hbel | exact Below.refl _ _) | (exfalso; simp_all; done) | (exfalso; simp_all; omega)

-- LIFT
set_option maxRecDepth 100000 in
theorem contract (H : Type) (enc : TypeId × Value → H) (W : World) (base : Nat) (args : Array Value) (ds gs : List (DataW H)) (before : List MemPlace)
    (hval : ∀ (j : Nat) t v, Tryd.f11.params[j]? = some t → args[j]? = some v → Value.okWide Tryd.prog W .any base t v)
    (hW : DataW.Whole enc Tryd.prog Tryd.f11.params.toList Rows.numCountsSpec.vars false W args.toList ds gs before) (hL : laidMetH Tryd.prog Rows.numCountsRow.laid W) :
    Calls Tryd.prog 11 args W fun e W' => ∃ v, e = .returned v ∧ Rows.numCountsSpec.post enc Tryd.prog Tryd.f11 false true false false W args v W' := by
  have hT := cell_of (show laidMetH Tryd.prog laidOf W from hL)
  clear hL
  have hts : Tryd.f11.params.toList.all (fun t => Tryd.prog.readableRec t && decide (t < Tryd.prog.types.size)) = true := by kernel_rfl
  have hW' := hW
  obtain ⟨p, q, hA0, hV, rfl, hfz, hnd⟩ := hW
  have hA : DataW.TrodAll enc Tryd.prog W 0 (fun _ => true) true Tryd.f11.params.toList args.toList ds p := hA0
  rw [Tryd.params11] at hA hval
  obtain ⟨v0, vs0, d0, ds0, p0, q0, hargs, rfl, rfl, h0, r0⟩ := trodAll_cons hA
  obtain ⟨v1, vs1, d1, ds1, p1, q1, rfl, rfl, rfl, h1, r1⟩ := trodAll_cons r0
  obtain ⟨v2, vs2, d2, ds2, p2, q2, rfl, rfl, rfl, h2, r2⟩ := trodAll_cons r1
  obtain ⟨rfl, rfl, rfl⟩ := trodAll_nil r2
  obtain rfl : args = #[v0, v1, v2] := by cases args; simp_all
  obtain ⟨rfl, rfl⟩ := trodVars_none hV
  have hfn : Rows.numCountsSpec.fn H ([d0, d1, d2] ++ []) = { results := [.lit (.bool true)], args := [d0, d1, d2] } := rfl
  have hfin := fun W' (hbel : Below W.heap.size W W') => law_post (f := Tryd.f11) (s := Rows.numCountsSpec) 4 Tryd.laid hts rfl Tryd.underlying4 rfl hfn hW' hbel
  clear hA0 hts hfn
  obtain ⟨a0, rfl, rfl, rfl, w0⟩ := open_int Tryd.underlying22 (hval 0 22 v0 rfl rfl) h0
  obtain ⟨a1, rfl, rfl, rfl, w1⟩ := open_int Tryd.underlying2 (hval 1 2 v1 rfl rfl) h1
  obtain ⟨a2, rfl, rfl, rfl, w2⟩ := open_int Tryd.underlying2 (hval 2 2 v2 rfl rfl) h2
  have x0 : 0 ≤ a0 ∧ a0 ≤ 18446744073709551615 := by simpa [Lit.wf, IntKind.min, IntKind.max, IntKind.signed, IntKind.bits] using w0
  obtain ⟨n0, rfl⟩ := Int.eq_ofNat_of_zero_le x0.1
  have x1 : -9223372036854775808 ≤ a1 ∧ a1 ≤ 9223372036854775807 := by simpa [Lit.wf, IntKind.min, IntKind.max, IntKind.signed, IntKind.bits] using w1
  have x2 : -9223372036854775808 ≤ a2 ∧ a2 ≤ 9223372036854775807 := by simpa [Lit.wf, IntKind.min, IntKind.max, IntKind.signed, IntKind.bits] using w2
  exact (walk n0 a1 a2 W hT (by unfold signB; omega) x1.1 x1.2 x2.1 x2.2).mono fun e W' ⟨he, hg⟩ => ⟨_, he, hfin W' hg⟩

theorem reads (os : Os) {H : Type} (enc : TypeId × Value → H) : ∃ places, DataW.whole enc Tryd.prog ((laidWorld os).forCall (fun _ _ => 0) ⟨#[], #[.int .u64 0, .int .i64 0, .int .i64 0], []⟩).memory Tryd.f11.params.toList Rows.numCountsSpec.vars false #[.int .u64 0, .int .i64 0, .int .i64 0].toList 8 = some ([.lit (.int .u64 0), .lit (.int .i64 0), .lit (.int .i64 0)], [], places) :=
  ⟨[], by kernel_rfl⟩
theorem laid_met (os : Os) : laidMet Tryd.prog Rows.numCountsRow.laid ((laidWorld os).forCall (fun _ _ => 0) ⟨#[], #[.int .u64 0, .int .i64 0, .int .i64 0], []⟩).memory := laid_here os #[.int .u64 0, .int .i64 0, .int .i64 0]

set_option maxRecDepth 100000 in
theorem lifted (os : Os) (started : os.Started) (H : Type) (enc : TypeId × Value → H) (F : Stop.Interp) :
    ReturnsInHanded {} Tryd.checked os 11 .any ((OpenSpec.ofChange Rows.numCountsSpec).preRow enc Tryd.prog Tryd.f11 Rows.numCountsRow.domain false Rows.numCountsRow.laid) (((OpenSpec.ofChange Rows.numCountsSpec).at F).post enc Tryd.prog Tryd.f11 false true false false) := by
  obtain ⟨places, hx⟩ := reads os enc
  refine returnsInHanded_of_row (C := Tryd.checked) (s := OpenSpec.ofChange Rows.numCountsSpec) Tryd.own started (by kernel_rfl) Tryd.func11
    (witness_row_atRef (enc := enc) (C := Tryd.checked) false (laidWorld os) #[.int .u64 0, .int .i64 0, .int .i64 0] rfl (by kernel_rfl) (by kernel_rfl) (by kernel_rfl)
      (OpenSpec.preRow_of_cond 8 hx (by kernel_rfl) (fun k hk => by cases hk) (by kernel_rfl) (laid_met os))) ?_
  intro W base args ds gs before hval hW _ _ _ hL _ _
  exact contract H enc W base args ds gs before hval hW hL

theorem said : Rows.NumCountsSaid :=
  OpenClaim.holds_of_cond 11 Tryd.f11 rfl rfl rfl rfl rfl rfl rfl ⟨rfl, rfl, rfl, rfl, rfl⟩ rfl rfl rfl rfl rfl (by kernel_rfl) Tryd.func11 (by kernel_rfl)
    (of_decide_eq_true (by kernel_rfl)) (by unfold Func.isWrapper; first | (rw [if_pos (by decide +kernel)]; kernel_rfl) | (rw [if_neg (by decide +kernel)]; exact ⟨rfl, rfl⟩))
    (fun os started H enc _ F => by rw [OpenClaim.pre_eq_preRow]; exact lifted os started H enc F)

theorem plain (f : FuncId) (fn : Func) (hf : Tryd.pinned.checked.prog.funcNamed "gaffer/gafferlaw01.NumCounts" = some f) (hfn : Tryd.pinned.checked.prog.funcs[f]? = some fn) :
    true = Tryd.pinned.checked.prog.looks [] ∧ ∀ (j : Nat) t, fn.params[j]? = some t → Tryd.pinned.checked.prog.wantsStandIn t = false := by
  obtain rfl : f = 11 := Option.some.inj ((show Tryd.prog.funcNamed "gaffer/gafferlaw01.NumCounts" = some 11 by kernel_rfl).symm.trans hf) |>.symm
  obtain rfl : fn = Tryd.f11 := (Option.some.inj (Tryd.func11.symm.trans hfn)).symm
  refine ⟨by kernel_rfl, fun j t ht => ?_⟩
  rw [Tryd.params11] at ht
  have hm := Array.mem_of_getElem? ht
  simp only [List.mem_toArray, List.mem_cons, List.not_mem_nil, or_false] at hm
  rcases hm with rfl | rfl | rfl
  · exact (show Tryd.prog.wantsStandIn 22 = false by kernel_rfl)
  · exact (show Tryd.prog.wantsStandIn 2 = false by kernel_rfl)
  · exact (show Tryd.prog.wantsStandIn 2 = false by kernel_rfl)

theorem proved : Rows.NumCountsCardSaid :=
  Claim7.holds_tied_plain_at .later [] _ _ _ _ said (fun _ h => by cases h) (by kernel_rfl) (fun _ h => by cases h) numCounts_row_tie rfl ⟨rfl, rfl⟩ (by kernel_rfl) rfl plain (by kernel_rfl)

end Go.Proofs.YthbdgdapchplgaaDoor.numCounts
