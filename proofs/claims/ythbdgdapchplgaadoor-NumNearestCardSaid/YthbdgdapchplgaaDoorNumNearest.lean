/- NumNearest: what a sum leaves out is at most half of its last bit, as a row and as a card. No condition. -/
import Derived.Test.YthbdgdapchplgaaDoorNumRow
set_option maxRecDepth 100000
namespace Go.Proofs.YthbdgdapchplgaaDoor.numNearest
open Go.RowKit Go.WideShapes Go.ChangeShapes Go.ChangeAt
open Go.ChangeMaps (open_string shut_string)

set_option maxHeartbeats 2000000 in
set_option maxRecDepth 100000 in
theorem walk (a : Nat) (b : Nat) (w : World) (hT : w.cell? TA = some (.int .u8 50)) (ha : a < 2 * signB) (hb : b < 2 * signB) :
    Calls Tryd.prog 13 #[.int .u64 (a : Nat), .int .u64 (b : Nat)] w fun e w' => e = .returned (.bool true) ∧ Below w.heap.size w w' := by
  have ls := (fadd_lt a b).1
  have k1 := class_any ha
  have k2 := class_any hb
  have k3 := add_any ha hb
  have k4 := class_any ls
  have k5 := abs_any ls
  have k6 := abs_any ha
  have k7 := abs_any hb
  have k8 := less_any (fabs_lt ha) (fabs_lt hb)
  by_cases ca : fclass a = 4
  rotate_left
  · obtain ⟨C, hvC⟩ : ∃ z0 : Int, z0 = fclass a := ⟨_, rfl⟩
    rw [← hvC] at k1 ca
    clear hvC
    go_enter Tryd.func13, Tryd.ntmps13
    go_wp2_with (first | (go_at_call 14; (first | (refine (awake_any _ hT).mono ?_) | (refine (awake_any _ (cell_keeps (grow_drewN _ _) hT)).mono ?_)); rintro _ _ ⟨rfl, hbel⟩) | (go_at_call 25; first | (with_reducible (refine (k1 _).mono ?_); rintro _ _ ⟨rfl, _, rfl⟩)))
    all_goals first | (go_ret; refine ⟨rfl, ?_⟩; (repeat (refine below_drewN ?_ _)); first | exact hbel | exact grow_from hbel | exact Below.refl _ _) | (exfalso; simp_all; done) | (exfalso; simp_all; omega)
  by_cases cb : fclass b = 4
  rotate_left
  · rw [ca] at k1
    obtain ⟨C, hvC⟩ : ∃ z0 : Int, z0 = fclass b := ⟨_, rfl⟩
    rw [← hvC] at k2 cb
    clear hvC
    go_enter Tryd.func13, Tryd.ntmps13
    go_wp2_with (first | (go_at_call 14; (first | (refine (awake_any _ hT).mono ?_) | (refine (awake_any _ (cell_keeps (grow_drewN _ _) hT)).mono ?_)); rintro _ _ ⟨rfl, hbel⟩) | (go_at_call 25; first | (with_reducible (refine (k1 _).mono ?_); rintro _ _ ⟨rfl, _, rfl⟩) | (with_reducible (refine (k2 _).mono ?_); rintro _ _ ⟨rfl, _, rfl⟩)))
    all_goals first | (go_ret; refine ⟨rfl, ?_⟩; (repeat (refine below_drewN ?_ _)); first | exact hbel | exact grow_from hbel | exact Below.refl _ _) | (exfalso; simp_all; done) | (exfalso; simp_all; omega)
  by_cases cs : fclass (fadd a b) = 4
  rotate_left
  · rw [ca] at k1
    rw [cb] at k2
    obtain ⟨C, hvC⟩ : ∃ z0 : Int, z0 = fclass (fadd a b) := ⟨_, rfl⟩
    rw [← hvC] at k4 cs
    clear hvC
    go_enter Tryd.func13, Tryd.ntmps13
    go_wp2_with (first | (go_at_call 14; (first | (refine (awake_any _ hT).mono ?_) | (refine (awake_any _ (cell_keeps (grow_drewN _ _) hT)).mono ?_)); rintro _ _ ⟨rfl, hbel⟩) | (go_at_call 25; first | (with_reducible (refine (k1 _).mono ?_); rintro _ _ ⟨rfl, _, rfl⟩) | (with_reducible (refine (k2 _).mono ?_); rintro _ _ ⟨rfl, _, rfl⟩) | (with_reducible (refine (k4 _).mono ?_); rintro _ _ ⟨rfl, _, rfl⟩)) | (go_at_call 22; first | (with_reducible (refine (k3 _).mono ?_); rintro _ _ ⟨rfl, _, rfl⟩)))
    all_goals first | (go_ret; refine ⟨rfl, ?_⟩; (repeat (refine below_drewN ?_ _)); first | exact hbel | exact grow_from hbel | exact Below.refl _ _) | (exfalso; simp_all; done) | (exfalso; simp_all; omega)
  rw [ca] at k1
  rw [cb] at k2
  rw [cs] at k4
  by_cases g3 : ((fabs (fadd a b) : Nat) : Int) < 243194379878006784
  · obtain ⟨T, hvT⟩ : ∃ z0 : Int, z0 = ((fabs (fadd a b) : Nat) : Int) := ⟨_, rfl⟩
    rw [← hvT] at k5 g3
    clear hvT
    go_enter Tryd.func13, Tryd.ntmps13
    go_wp2_with (first | (go_at_call 14; (first | (refine (awake_any _ hT).mono ?_) | (refine (awake_any _ (cell_keeps (grow_drewN _ _) hT)).mono ?_)); rintro _ _ ⟨rfl, hbel⟩) | (go_at_call 25; first | (with_reducible (refine (k1 _).mono ?_); rintro _ _ ⟨rfl, _, rfl⟩) | (with_reducible (refine (k2 _).mono ?_); rintro _ _ ⟨rfl, _, rfl⟩) | (with_reducible (refine (k4 _).mono ?_); rintro _ _ ⟨rfl, _, rfl⟩)) | (go_at_call 22; first | (with_reducible (refine (k3 _).mono ?_); rintro _ _ ⟨rfl, _, rfl⟩)) | (go_at_call 28; first | (with_reducible (refine (k5 _).mono ?_); rintro _ _ ⟨rfl, _, rfl⟩)))
    all_goals first | (go_ret; refine ⟨rfl, ?_⟩; (repeat (refine below_drewN ?_ _)); first | exact hbel | exact grow_from hbel | exact Below.refl _ _) | (exfalso; simp_all; done) | (exfalso; simp_all; omega)
  by_cases g1 : (9209861237972664320 : Int) ≤ ((fabs a : Nat) : Int)
  · obtain ⟨T, hvT⟩ : ∃ z0 : Int, z0 = ((fabs (fadd a b) : Nat) : Int) := ⟨_, rfl⟩
    rw [← hvT] at k5 g3
    clear hvT
    obtain ⟨A, hvA⟩ : ∃ z0 : Int, z0 = ((fabs a : Nat) : Int) := ⟨_, rfl⟩
    rw [← hvA] at k6 g1
    clear hvA
    go_enter Tryd.func13, Tryd.ntmps13
    go_wp2_with (first | (go_at_call 14; (first | (refine (awake_any _ hT).mono ?_) | (refine (awake_any _ (cell_keeps (grow_drewN _ _) hT)).mono ?_)); rintro _ _ ⟨rfl, hbel⟩) | (go_at_call 25; first | (with_reducible (refine (k1 _).mono ?_); rintro _ _ ⟨rfl, _, rfl⟩) | (with_reducible (refine (k2 _).mono ?_); rintro _ _ ⟨rfl, _, rfl⟩) | (with_reducible (refine (k4 _).mono ?_); rintro _ _ ⟨rfl, _, rfl⟩)) | (go_at_call 22; first | (with_reducible (refine (k3 _).mono ?_); rintro _ _ ⟨rfl, _, rfl⟩)) | (go_at_call 28; first | (with_reducible (refine (k5 _).mono ?_); rintro _ _ ⟨rfl, _, rfl⟩) | (with_reducible (refine (k6 _).mono ?_); rintro _ _ ⟨rfl, _, rfl⟩)))
    all_goals first | (go_ret; refine ⟨rfl, ?_⟩; (repeat (refine below_drewN ?_ _)); first | exact hbel | exact grow_from hbel | exact Below.refl _ _) | (exfalso; simp_all; done) | (exfalso; simp_all; omega)
  by_cases g2 : (9209861237972664320 : Int) ≤ ((fabs b : Nat) : Int)
  · obtain ⟨T, hvT⟩ : ∃ z0 : Int, z0 = ((fabs (fadd a b) : Nat) : Int) := ⟨_, rfl⟩
    rw [← hvT] at k5 g3
    clear hvT
    obtain ⟨A, hvA⟩ : ∃ z0 : Int, z0 = ((fabs a : Nat) : Int) := ⟨_, rfl⟩
    rw [← hvA] at k6 g1
    clear hvA
    obtain ⟨B, hvB⟩ : ∃ z0 : Int, z0 = ((fabs b : Nat) : Int) := ⟨_, rfl⟩
    rw [← hvB] at k7 g2
    clear hvB
    go_enter Tryd.func13, Tryd.ntmps13
    go_wp2_with (first | (go_at_call 14; (first | (refine (awake_any _ hT).mono ?_) | (refine (awake_any _ (cell_keeps (grow_drewN _ _) hT)).mono ?_)); rintro _ _ ⟨rfl, hbel⟩) | (go_at_call 25; first | (with_reducible (refine (k1 _).mono ?_); rintro _ _ ⟨rfl, _, rfl⟩) | (with_reducible (refine (k2 _).mono ?_); rintro _ _ ⟨rfl, _, rfl⟩) | (with_reducible (refine (k4 _).mono ?_); rintro _ _ ⟨rfl, _, rfl⟩)) | (go_at_call 22; first | (with_reducible (refine (k3 _).mono ?_); rintro _ _ ⟨rfl, _, rfl⟩)) | (go_at_call 28; first | (with_reducible (refine (k5 _).mono ?_); rintro _ _ ⟨rfl, _, rfl⟩) | (with_reducible (refine (k6 _).mono ?_); rintro _ _ ⟨rfl, _, rfl⟩) | (with_reducible (refine (k7 _).mono ?_); rintro _ _ ⟨rfl, _, rfl⟩)))
    all_goals first | (go_ret; refine ⟨rfl, ?_⟩; (repeat (refine below_drewN ?_ _)); first | exact hbel | exact grow_from hbel | exact Below.refl _ _) | (exfalso; simp_all; done) | (exfalso; simp_all; omega)
  have fa := plain_fin ha ca
  have fb := plain_fin hb cb
  have fs := plain_fin ls cs
  have tla := (fin_abs fa).2.2
  have tlb := (fin_abs fb).2.2
  have tls := (fin_abs fs).2.2
  have hl := fless_val (fabs_lt ha) (fabs_lt hb)
  rw [fabs_no fa, fabs_no fb, fval_abs fa, fval_abs fb] at hl
  cases hlt : fless (fabs a) (fabs b)
  · have facts : Fin_ a ∧ Fin_ b ∧ b % signB ≤ a % signB ∧ True ∧ (fabs (fadd a b) % 4503599627370496 ≠ 0 → fless (fsub (fabs (fadd a b)) (fabs (fadd a b) - 1)) (fadd (fabs (fsub b (fsub (fadd a b) a))) (fabs (fsub b (fsub (fadd a b) a)))) = false) := by
      rw [hlt] at hl
      simp only [Bool.not_false, Bool.true_and] at hl
      have hle : b % signB ≤ a % signB := by
        have := of_decide_eq_false hl.symm
        omega
      refine ⟨fa, fb, hle, trivial, fun hz => ?_⟩
      rw [tls] at hz
      exact nearest_half fa fb (by rw [tla] at g1; omega) hle fs hz
    rw [hlt] at k8
    clear hlt hl fa fb fs tla tlb tls ca cb cs
    obtain ⟨A, hvA⟩ : ∃ z0 : Int, z0 = ((fabs a : Nat) : Int) := ⟨_, rfl⟩
    rw [← hvA] at k6 k8 g1
    clear hvA
    obtain ⟨B, hvB⟩ : ∃ z0 : Int, z0 = ((fabs b : Nat) : Int) := ⟨_, rfl⟩
    rw [← hvB] at k7 k8 g2
    clear hvB
    obtain ⟨_, _, _, _, hsum⟩ := facts
    have k9 := sub_any ls ha
    have lk := (fsub_lt (fadd a b) a).1
    have m1 := sub_any hb lk
    have lm := (fsub_lt b (fsub (fadd a b) a)).1
    have m2 := abs_any lm
    have lA := fabs_lt lm
    have m4 := add_any lA lA
    have l0 := fabs_lt ls
    have l1 : fabs (fadd a b) - 1 < 2 * signB := by omega
    have m3 := sub_any (fabs_lt ls) l1
    have hm1 : (((fabs (fadd a b) - 1 : Nat)) : Int) = ((fabs (fadd a b) : Nat) : Int) - 1 := by omega
    have m5 := less_any (fsub_lt (fabs (fadd a b)) (fabs (fadd a b) - 1)).1 (fadd_lt (fabs (fsub b (fsub (fadd a b) a))) (fabs (fsub b (fsub (fadd a b) a)))).1
    rw [hm1] at m3
    have hbits : bits .and .u64 ((fabs (fadd a b) : Nat) : Int) 4503599627370495 = ((fabs (fadd a b) % 4503599627370496 : Nat) : Int) := and_frac (fabs_lt ls)
    have habs0 : (1 : Int) ≤ ((fabs (fadd a b) : Nat) : Int) ∧ ((fabs (fadd a b) : Nat) : Int) ≤ 18446744073709551615 := by
      have := fabs_lt ls
      unfold signB at this
      omega
    by_cases z : fabs (fadd a b) % 4503599627370496 = 0
    · rw [z] at hbits
      cases hv : fless (fsub (fabs (fadd a b)) (fabs (fadd a b) - 1)) (fadd (fabs (fsub b (fsub (fadd a b) a))) (fabs (fsub b (fsub (fadd a b) a))))
      · rw [hv] at m5
        clear hv z hm1 hsum
        obtain ⟨R, hvR⟩ : ∃ z0 : Int, z0 = ((fadd (fabs (fsub b (fsub (fadd a b) a))) (fabs (fsub b (fsub (fadd a b) a))) : Nat) : Int) := ⟨_, rfl⟩
        rw [← hvR] at m4 m5
        clear hvR
        obtain ⟨L, hvL⟩ : ∃ z0 : Int, z0 = ((fsub (fabs (fadd a b)) (fabs (fadd a b) - 1) : Nat) : Int) := ⟨_, rfl⟩
        rw [← hvL] at m3 m5
        clear hvL
        obtain ⟨H, hvH⟩ : ∃ z0 : Int, z0 = ((fabs (fsub b (fsub (fadd a b) a)) : Nat) : Int) := ⟨_, rfl⟩
        rw [← hvH] at m2 m4
        clear hvH
        obtain ⟨G, hvG⟩ : ∃ z0 : Int, z0 = ((fsub b (fsub (fadd a b) a) : Nat) : Int) := ⟨_, rfl⟩
        rw [← hvG] at m1 m2
        clear hvG
        obtain ⟨E, hvE⟩ : ∃ z0 : Int, z0 = ((fsub (fadd a b) a : Nat) : Int) := ⟨_, rfl⟩
        rw [← hvE] at k9 m1
        clear hvE
        obtain ⟨T, hvT⟩ : ∃ z0 : Int, z0 = ((fabs (fadd a b) : Nat) : Int) := ⟨_, rfl⟩
        rw [← hvT] at k5 m3 hbits g3 habs0
        clear hvT
        obtain ⟨S, hvS⟩ : ∃ z0 : Int, z0 = ((fadd a b : Nat) : Int) := ⟨_, rfl⟩
        rw [← hvS] at k3 k4 k5 k9
        clear hvS
        go_enter Tryd.func13, Tryd.ntmps13
        go_wp2_with (first | (go_at_call 14; (first | (refine (awake_any _ hT).mono ?_) | (refine (awake_any _ (cell_keeps (grow_drewN _ _) hT)).mono ?_)); rintro _ _ ⟨rfl, hbel⟩) | (go_at_call 25; first | (with_reducible (refine (k1 _).mono ?_); rintro _ _ ⟨rfl, _, rfl⟩) | (with_reducible (refine (k2 _).mono ?_); rintro _ _ ⟨rfl, _, rfl⟩) | (with_reducible (refine (k4 _).mono ?_); rintro _ _ ⟨rfl, _, rfl⟩)) | (go_at_call 22; first | (with_reducible (refine (k3 _).mono ?_); rintro _ _ ⟨rfl, _, rfl⟩) | (with_reducible (refine (m4 _).mono ?_); rintro _ _ ⟨rfl, _, rfl⟩)) | (go_at_call 28; first | (with_reducible (refine (k5 _).mono ?_); rintro _ _ ⟨rfl, _, rfl⟩) | (with_reducible (refine (k6 _).mono ?_); rintro _ _ ⟨rfl, _, rfl⟩) | (with_reducible (refine (k7 _).mono ?_); rintro _ _ ⟨rfl, _, rfl⟩) | (with_reducible (refine (m2 _).mono ?_); rintro _ _ ⟨rfl, _, rfl⟩)) | (go_at_call 15; first | (with_reducible (refine (k8 _).mono ?_); rintro _ _ ⟨rfl, _, rfl⟩) | (with_reducible (refine (m5 _).mono ?_); rintro _ _ ⟨rfl, _, rfl⟩)) | (go_at_call 21; first | (with_reducible (refine (k9 _).mono ?_); rintro _ _ ⟨rfl, _, rfl⟩) | (with_reducible (refine (m1 _).mono ?_); rintro _ _ ⟨rfl, _, rfl⟩) | (with_reducible (refine (m3 _).mono ?_); rintro _ _ ⟨rfl, _, rfl⟩)))
        all_goals first | (go_ret; refine ⟨rfl, ?_⟩; (repeat (refine below_drewN ?_ _)); first | exact hbel | exact grow_from hbel | exact Below.refl _ _) | (exfalso; simp_all; done) | (exfalso; simp_all; omega)
      · rw [hv] at m5
        clear hv z hm1 hsum
        obtain ⟨R, hvR⟩ : ∃ z0 : Int, z0 = ((fadd (fabs (fsub b (fsub (fadd a b) a))) (fabs (fsub b (fsub (fadd a b) a))) : Nat) : Int) := ⟨_, rfl⟩
        rw [← hvR] at m4 m5
        clear hvR
        obtain ⟨L, hvL⟩ : ∃ z0 : Int, z0 = ((fsub (fabs (fadd a b)) (fabs (fadd a b) - 1) : Nat) : Int) := ⟨_, rfl⟩
        rw [← hvL] at m3 m5
        clear hvL
        obtain ⟨H, hvH⟩ : ∃ z0 : Int, z0 = ((fabs (fsub b (fsub (fadd a b) a)) : Nat) : Int) := ⟨_, rfl⟩
        rw [← hvH] at m2 m4
        clear hvH
        obtain ⟨G, hvG⟩ : ∃ z0 : Int, z0 = ((fsub b (fsub (fadd a b) a) : Nat) : Int) := ⟨_, rfl⟩
        rw [← hvG] at m1 m2
        clear hvG
        obtain ⟨E, hvE⟩ : ∃ z0 : Int, z0 = ((fsub (fadd a b) a : Nat) : Int) := ⟨_, rfl⟩
        rw [← hvE] at k9 m1
        clear hvE
        obtain ⟨T, hvT⟩ : ∃ z0 : Int, z0 = ((fabs (fadd a b) : Nat) : Int) := ⟨_, rfl⟩
        rw [← hvT] at k5 m3 hbits g3 habs0
        clear hvT
        obtain ⟨S, hvS⟩ : ∃ z0 : Int, z0 = ((fadd a b : Nat) : Int) := ⟨_, rfl⟩
        rw [← hvS] at k3 k4 k5 k9
        clear hvS
        go_enter Tryd.func13, Tryd.ntmps13
        go_wp2_with (first | (go_at_call 14; (first | (refine (awake_any _ hT).mono ?_) | (refine (awake_any _ (cell_keeps (grow_drewN _ _) hT)).mono ?_)); rintro _ _ ⟨rfl, hbel⟩) | (go_at_call 25; first | (with_reducible (refine (k1 _).mono ?_); rintro _ _ ⟨rfl, _, rfl⟩) | (with_reducible (refine (k2 _).mono ?_); rintro _ _ ⟨rfl, _, rfl⟩) | (with_reducible (refine (k4 _).mono ?_); rintro _ _ ⟨rfl, _, rfl⟩)) | (go_at_call 22; first | (with_reducible (refine (k3 _).mono ?_); rintro _ _ ⟨rfl, _, rfl⟩) | (with_reducible (refine (m4 _).mono ?_); rintro _ _ ⟨rfl, _, rfl⟩)) | (go_at_call 28; first | (with_reducible (refine (k5 _).mono ?_); rintro _ _ ⟨rfl, _, rfl⟩) | (with_reducible (refine (k6 _).mono ?_); rintro _ _ ⟨rfl, _, rfl⟩) | (with_reducible (refine (k7 _).mono ?_); rintro _ _ ⟨rfl, _, rfl⟩) | (with_reducible (refine (m2 _).mono ?_); rintro _ _ ⟨rfl, _, rfl⟩)) | (go_at_call 15; first | (with_reducible (refine (k8 _).mono ?_); rintro _ _ ⟨rfl, _, rfl⟩) | (with_reducible (refine (m5 _).mono ?_); rintro _ _ ⟨rfl, _, rfl⟩)) | (go_at_call 21; first | (with_reducible (refine (k9 _).mono ?_); rintro _ _ ⟨rfl, _, rfl⟩) | (with_reducible (refine (m1 _).mono ?_); rintro _ _ ⟨rfl, _, rfl⟩) | (with_reducible (refine (m3 _).mono ?_); rintro _ _ ⟨rfl, _, rfl⟩)))
        all_goals first | (go_ret; refine ⟨rfl, ?_⟩; (repeat (refine below_drewN ?_ _)); first | exact hbel | exact grow_from hbel | exact Below.refl _ _) | (exfalso; simp_all; done) | (exfalso; simp_all; omega)
    · have hv := hsum z
      rw [hv] at m5
      clear hv z hm1 hsum hbits
      obtain ⟨R, hvR⟩ : ∃ z0 : Int, z0 = ((fadd (fabs (fsub b (fsub (fadd a b) a))) (fabs (fsub b (fsub (fadd a b) a))) : Nat) : Int) := ⟨_, rfl⟩
      rw [← hvR] at m4 m5
      clear hvR
      obtain ⟨L, hvL⟩ : ∃ z0 : Int, z0 = ((fsub (fabs (fadd a b)) (fabs (fadd a b) - 1) : Nat) : Int) := ⟨_, rfl⟩
      rw [← hvL] at m3 m5
      clear hvL
      obtain ⟨H, hvH⟩ : ∃ z0 : Int, z0 = ((fabs (fsub b (fsub (fadd a b) a)) : Nat) : Int) := ⟨_, rfl⟩
      rw [← hvH] at m2 m4
      clear hvH
      obtain ⟨G, hvG⟩ : ∃ z0 : Int, z0 = ((fsub b (fsub (fadd a b) a) : Nat) : Int) := ⟨_, rfl⟩
      rw [← hvG] at m1 m2
      clear hvG
      obtain ⟨E, hvE⟩ : ∃ z0 : Int, z0 = ((fsub (fadd a b) a : Nat) : Int) := ⟨_, rfl⟩
      rw [← hvE] at k9 m1
      clear hvE
      obtain ⟨T, hvT⟩ : ∃ z0 : Int, z0 = ((fabs (fadd a b) : Nat) : Int) := ⟨_, rfl⟩
      rw [← hvT] at k5 m3 g3 habs0
      clear hvT
      obtain ⟨S, hvS⟩ : ∃ z0 : Int, z0 = ((fadd a b : Nat) : Int) := ⟨_, rfl⟩
      rw [← hvS] at k3 k4 k5 k9
      clear hvS
      go_enter Tryd.func13, Tryd.ntmps13
      go_wp2_with (first | (go_at_call 14; (first | (refine (awake_any _ hT).mono ?_) | (refine (awake_any _ (cell_keeps (grow_drewN _ _) hT)).mono ?_)); rintro _ _ ⟨rfl, hbel⟩) | (go_at_call 25; first | (with_reducible (refine (k1 _).mono ?_); rintro _ _ ⟨rfl, _, rfl⟩) | (with_reducible (refine (k2 _).mono ?_); rintro _ _ ⟨rfl, _, rfl⟩) | (with_reducible (refine (k4 _).mono ?_); rintro _ _ ⟨rfl, _, rfl⟩)) | (go_at_call 22; first | (with_reducible (refine (k3 _).mono ?_); rintro _ _ ⟨rfl, _, rfl⟩) | (with_reducible (refine (m4 _).mono ?_); rintro _ _ ⟨rfl, _, rfl⟩)) | (go_at_call 28; first | (with_reducible (refine (k5 _).mono ?_); rintro _ _ ⟨rfl, _, rfl⟩) | (with_reducible (refine (k6 _).mono ?_); rintro _ _ ⟨rfl, _, rfl⟩) | (with_reducible (refine (k7 _).mono ?_); rintro _ _ ⟨rfl, _, rfl⟩) | (with_reducible (refine (m2 _).mono ?_); rintro _ _ ⟨rfl, _, rfl⟩)) | (go_at_call 15; first | (with_reducible (refine (k8 _).mono ?_); rintro _ _ ⟨rfl, _, rfl⟩) | (with_reducible (refine (m5 _).mono ?_); rintro _ _ ⟨rfl, _, rfl⟩)) | (go_at_call 21; first | (with_reducible (refine (k9 _).mono ?_); rintro _ _ ⟨rfl, _, rfl⟩) | (with_reducible (refine (m1 _).mono ?_); rintro _ _ ⟨rfl, _, rfl⟩) | (with_reducible (refine (m3 _).mono ?_); rintro _ _ ⟨rfl, _, rfl⟩)))
      all_goals first | (go_ret; refine ⟨rfl, ?_⟩; (repeat (refine below_drewN ?_ _)); first | exact hbel | exact grow_from hbel | exact Below.refl _ _) | (exfalso; simp_all; done) | (exfalso; simp_all; omega)
  · have facts : Fin_ b ∧ Fin_ a ∧ a % signB ≤ b % signB ∧ True ∧ (fabs (fadd a b) % 4503599627370496 ≠ 0 → fless (fsub (fabs (fadd a b)) (fabs (fadd a b) - 1)) (fadd (fabs (fsub a (fsub (fadd a b) b))) (fabs (fsub a (fsub (fadd a b) b)))) = false) := by
      rw [hlt] at hl
      simp only [Bool.not_false, Bool.true_and] at hl
      have hle : a % signB ≤ b % signB := by
        have := of_decide_eq_true hl.symm
        omega
      refine ⟨fb, fa, hle, trivial, fun hz => ?_⟩
      rw [tls] at hz
      have := nearest_half fb fa (by rw [tlb] at g2; omega) hle (by rw [fadd_comm]; exact fs) (by rw [fadd_comm]; exact hz)
      rw [fadd_comm b a] at this
      exact this
    rw [hlt] at k8
    clear hlt hl fa fb fs tla tlb tls ca cb cs
    obtain ⟨A, hvA⟩ : ∃ z0 : Int, z0 = ((fabs a : Nat) : Int) := ⟨_, rfl⟩
    rw [← hvA] at k6 k8 g1
    clear hvA
    obtain ⟨B, hvB⟩ : ∃ z0 : Int, z0 = ((fabs b : Nat) : Int) := ⟨_, rfl⟩
    rw [← hvB] at k7 k8 g2
    clear hvB
    obtain ⟨_, _, _, _, hsum⟩ := facts
    have k9 := sub_any ls hb
    have lk := (fsub_lt (fadd a b) b).1
    have m1 := sub_any ha lk
    have lm := (fsub_lt a (fsub (fadd a b) b)).1
    have m2 := abs_any lm
    have lA := fabs_lt lm
    have m4 := add_any lA lA
    have l0 := fabs_lt ls
    have l1 : fabs (fadd a b) - 1 < 2 * signB := by omega
    have m3 := sub_any (fabs_lt ls) l1
    have hm1 : (((fabs (fadd a b) - 1 : Nat)) : Int) = ((fabs (fadd a b) : Nat) : Int) - 1 := by omega
    have m5 := less_any (fsub_lt (fabs (fadd a b)) (fabs (fadd a b) - 1)).1 (fadd_lt (fabs (fsub a (fsub (fadd a b) b))) (fabs (fsub a (fsub (fadd a b) b)))).1
    rw [hm1] at m3
    have hbits : bits .and .u64 ((fabs (fadd a b) : Nat) : Int) 4503599627370495 = ((fabs (fadd a b) % 4503599627370496 : Nat) : Int) := and_frac (fabs_lt ls)
    have habs0 : (1 : Int) ≤ ((fabs (fadd a b) : Nat) : Int) ∧ ((fabs (fadd a b) : Nat) : Int) ≤ 18446744073709551615 := by
      have := fabs_lt ls
      unfold signB at this
      omega
    by_cases z : fabs (fadd a b) % 4503599627370496 = 0
    · rw [z] at hbits
      cases hv : fless (fsub (fabs (fadd a b)) (fabs (fadd a b) - 1)) (fadd (fabs (fsub a (fsub (fadd a b) b))) (fabs (fsub a (fsub (fadd a b) b))))
      · rw [hv] at m5
        clear hv z hm1 hsum
        obtain ⟨R, hvR⟩ : ∃ z0 : Int, z0 = ((fadd (fabs (fsub a (fsub (fadd a b) b))) (fabs (fsub a (fsub (fadd a b) b))) : Nat) : Int) := ⟨_, rfl⟩
        rw [← hvR] at m4 m5
        clear hvR
        obtain ⟨L, hvL⟩ : ∃ z0 : Int, z0 = ((fsub (fabs (fadd a b)) (fabs (fadd a b) - 1) : Nat) : Int) := ⟨_, rfl⟩
        rw [← hvL] at m3 m5
        clear hvL
        obtain ⟨H, hvH⟩ : ∃ z0 : Int, z0 = ((fabs (fsub a (fsub (fadd a b) b)) : Nat) : Int) := ⟨_, rfl⟩
        rw [← hvH] at m2 m4
        clear hvH
        obtain ⟨G, hvG⟩ : ∃ z0 : Int, z0 = ((fsub a (fsub (fadd a b) b) : Nat) : Int) := ⟨_, rfl⟩
        rw [← hvG] at m1 m2
        clear hvG
        obtain ⟨E, hvE⟩ : ∃ z0 : Int, z0 = ((fsub (fadd a b) b : Nat) : Int) := ⟨_, rfl⟩
        rw [← hvE] at k9 m1
        clear hvE
        obtain ⟨T, hvT⟩ : ∃ z0 : Int, z0 = ((fabs (fadd a b) : Nat) : Int) := ⟨_, rfl⟩
        rw [← hvT] at k5 m3 hbits g3 habs0
        clear hvT
        obtain ⟨S, hvS⟩ : ∃ z0 : Int, z0 = ((fadd a b : Nat) : Int) := ⟨_, rfl⟩
        rw [← hvS] at k3 k4 k5 k9
        clear hvS
        go_enter Tryd.func13, Tryd.ntmps13
        go_wp2_with (first | (go_at_call 14; (first | (refine (awake_any _ hT).mono ?_) | (refine (awake_any _ (cell_keeps (grow_drewN _ _) hT)).mono ?_)); rintro _ _ ⟨rfl, hbel⟩) | (go_at_call 25; first | (with_reducible (refine (k1 _).mono ?_); rintro _ _ ⟨rfl, _, rfl⟩) | (with_reducible (refine (k2 _).mono ?_); rintro _ _ ⟨rfl, _, rfl⟩) | (with_reducible (refine (k4 _).mono ?_); rintro _ _ ⟨rfl, _, rfl⟩)) | (go_at_call 22; first | (with_reducible (refine (k3 _).mono ?_); rintro _ _ ⟨rfl, _, rfl⟩) | (with_reducible (refine (m4 _).mono ?_); rintro _ _ ⟨rfl, _, rfl⟩)) | (go_at_call 28; first | (with_reducible (refine (k5 _).mono ?_); rintro _ _ ⟨rfl, _, rfl⟩) | (with_reducible (refine (k6 _).mono ?_); rintro _ _ ⟨rfl, _, rfl⟩) | (with_reducible (refine (k7 _).mono ?_); rintro _ _ ⟨rfl, _, rfl⟩) | (with_reducible (refine (m2 _).mono ?_); rintro _ _ ⟨rfl, _, rfl⟩)) | (go_at_call 15; first | (with_reducible (refine (k8 _).mono ?_); rintro _ _ ⟨rfl, _, rfl⟩) | (with_reducible (refine (m5 _).mono ?_); rintro _ _ ⟨rfl, _, rfl⟩)) | (go_at_call 21; first | (with_reducible (refine (k9 _).mono ?_); rintro _ _ ⟨rfl, _, rfl⟩) | (with_reducible (refine (m1 _).mono ?_); rintro _ _ ⟨rfl, _, rfl⟩) | (with_reducible (refine (m3 _).mono ?_); rintro _ _ ⟨rfl, _, rfl⟩)))
        all_goals first | (go_ret; refine ⟨rfl, ?_⟩; (repeat (refine below_drewN ?_ _)); first | exact hbel | exact grow_from hbel | exact Below.refl _ _) | (exfalso; simp_all; done) | (exfalso; simp_all; omega)
      · rw [hv] at m5
        clear hv z hm1 hsum
        obtain ⟨R, hvR⟩ : ∃ z0 : Int, z0 = ((fadd (fabs (fsub a (fsub (fadd a b) b))) (fabs (fsub a (fsub (fadd a b) b))) : Nat) : Int) := ⟨_, rfl⟩
        rw [← hvR] at m4 m5
        clear hvR
        obtain ⟨L, hvL⟩ : ∃ z0 : Int, z0 = ((fsub (fabs (fadd a b)) (fabs (fadd a b) - 1) : Nat) : Int) := ⟨_, rfl⟩
        rw [← hvL] at m3 m5
        clear hvL
        obtain ⟨H, hvH⟩ : ∃ z0 : Int, z0 = ((fabs (fsub a (fsub (fadd a b) b)) : Nat) : Int) := ⟨_, rfl⟩
        rw [← hvH] at m2 m4
        clear hvH
        obtain ⟨G, hvG⟩ : ∃ z0 : Int, z0 = ((fsub a (fsub (fadd a b) b) : Nat) : Int) := ⟨_, rfl⟩
        rw [← hvG] at m1 m2
        clear hvG
        obtain ⟨E, hvE⟩ : ∃ z0 : Int, z0 = ((fsub (fadd a b) b : Nat) : Int) := ⟨_, rfl⟩
        rw [← hvE] at k9 m1
        clear hvE
        obtain ⟨T, hvT⟩ : ∃ z0 : Int, z0 = ((fabs (fadd a b) : Nat) : Int) := ⟨_, rfl⟩
        rw [← hvT] at k5 m3 hbits g3 habs0
        clear hvT
        obtain ⟨S, hvS⟩ : ∃ z0 : Int, z0 = ((fadd a b : Nat) : Int) := ⟨_, rfl⟩
        rw [← hvS] at k3 k4 k5 k9
        clear hvS
        go_enter Tryd.func13, Tryd.ntmps13
        go_wp2_with (first | (go_at_call 14; (first | (refine (awake_any _ hT).mono ?_) | (refine (awake_any _ (cell_keeps (grow_drewN _ _) hT)).mono ?_)); rintro _ _ ⟨rfl, hbel⟩) | (go_at_call 25; first | (with_reducible (refine (k1 _).mono ?_); rintro _ _ ⟨rfl, _, rfl⟩) | (with_reducible (refine (k2 _).mono ?_); rintro _ _ ⟨rfl, _, rfl⟩) | (with_reducible (refine (k4 _).mono ?_); rintro _ _ ⟨rfl, _, rfl⟩)) | (go_at_call 22; first | (with_reducible (refine (k3 _).mono ?_); rintro _ _ ⟨rfl, _, rfl⟩) | (with_reducible (refine (m4 _).mono ?_); rintro _ _ ⟨rfl, _, rfl⟩)) | (go_at_call 28; first | (with_reducible (refine (k5 _).mono ?_); rintro _ _ ⟨rfl, _, rfl⟩) | (with_reducible (refine (k6 _).mono ?_); rintro _ _ ⟨rfl, _, rfl⟩) | (with_reducible (refine (k7 _).mono ?_); rintro _ _ ⟨rfl, _, rfl⟩) | (with_reducible (refine (m2 _).mono ?_); rintro _ _ ⟨rfl, _, rfl⟩)) | (go_at_call 15; first | (with_reducible (refine (k8 _).mono ?_); rintro _ _ ⟨rfl, _, rfl⟩) | (with_reducible (refine (m5 _).mono ?_); rintro _ _ ⟨rfl, _, rfl⟩)) | (go_at_call 21; first | (with_reducible (refine (k9 _).mono ?_); rintro _ _ ⟨rfl, _, rfl⟩) | (with_reducible (refine (m1 _).mono ?_); rintro _ _ ⟨rfl, _, rfl⟩) | (with_reducible (refine (m3 _).mono ?_); rintro _ _ ⟨rfl, _, rfl⟩)))
        all_goals first | (go_ret; refine ⟨rfl, ?_⟩; (repeat (refine below_drewN ?_ _)); first | exact hbel | exact grow_from hbel | exact Below.refl _ _) | (exfalso; simp_all; done) | (exfalso; simp_all; omega)
    · have hv := hsum z
      rw [hv] at m5
      clear hv z hm1 hsum hbits
      obtain ⟨R, hvR⟩ : ∃ z0 : Int, z0 = ((fadd (fabs (fsub a (fsub (fadd a b) b))) (fabs (fsub a (fsub (fadd a b) b))) : Nat) : Int) := ⟨_, rfl⟩
      rw [← hvR] at m4 m5
      clear hvR
      obtain ⟨L, hvL⟩ : ∃ z0 : Int, z0 = ((fsub (fabs (fadd a b)) (fabs (fadd a b) - 1) : Nat) : Int) := ⟨_, rfl⟩
      rw [← hvL] at m3 m5
      clear hvL
      obtain ⟨H, hvH⟩ : ∃ z0 : Int, z0 = ((fabs (fsub a (fsub (fadd a b) b)) : Nat) : Int) := ⟨_, rfl⟩
      rw [← hvH] at m2 m4
      clear hvH
      obtain ⟨G, hvG⟩ : ∃ z0 : Int, z0 = ((fsub a (fsub (fadd a b) b) : Nat) : Int) := ⟨_, rfl⟩
      rw [← hvG] at m1 m2
      clear hvG
      obtain ⟨E, hvE⟩ : ∃ z0 : Int, z0 = ((fsub (fadd a b) b : Nat) : Int) := ⟨_, rfl⟩
      rw [← hvE] at k9 m1
      clear hvE
      obtain ⟨T, hvT⟩ : ∃ z0 : Int, z0 = ((fabs (fadd a b) : Nat) : Int) := ⟨_, rfl⟩
      rw [← hvT] at k5 m3 g3 habs0
      clear hvT
      obtain ⟨S, hvS⟩ : ∃ z0 : Int, z0 = ((fadd a b : Nat) : Int) := ⟨_, rfl⟩
      rw [← hvS] at k3 k4 k5 k9
      clear hvS
      go_enter Tryd.func13, Tryd.ntmps13
      go_wp2_with (first | (go_at_call 14; (first | (refine (awake_any _ hT).mono ?_) | (refine (awake_any _ (cell_keeps (grow_drewN _ _) hT)).mono ?_)); rintro _ _ ⟨rfl, hbel⟩) | (go_at_call 25; first | (with_reducible (refine (k1 _).mono ?_); rintro _ _ ⟨rfl, _, rfl⟩) | (with_reducible (refine (k2 _).mono ?_); rintro _ _ ⟨rfl, _, rfl⟩) | (with_reducible (refine (k4 _).mono ?_); rintro _ _ ⟨rfl, _, rfl⟩)) | (go_at_call 22; first | (with_reducible (refine (k3 _).mono ?_); rintro _ _ ⟨rfl, _, rfl⟩) | (with_reducible (refine (m4 _).mono ?_); rintro _ _ ⟨rfl, _, rfl⟩)) | (go_at_call 28; first | (with_reducible (refine (k5 _).mono ?_); rintro _ _ ⟨rfl, _, rfl⟩) | (with_reducible (refine (k6 _).mono ?_); rintro _ _ ⟨rfl, _, rfl⟩) | (with_reducible (refine (k7 _).mono ?_); rintro _ _ ⟨rfl, _, rfl⟩) | (with_reducible (refine (m2 _).mono ?_); rintro _ _ ⟨rfl, _, rfl⟩)) | (go_at_call 15; first | (with_reducible (refine (k8 _).mono ?_); rintro _ _ ⟨rfl, _, rfl⟩) | (with_reducible (refine (m5 _).mono ?_); rintro _ _ ⟨rfl, _, rfl⟩)) | (go_at_call 21; first | (with_reducible (refine (k9 _).mono ?_); rintro _ _ ⟨rfl, _, rfl⟩) | (with_reducible (refine (m1 _).mono ?_); rintro _ _ ⟨rfl, _, rfl⟩) | (with_reducible (refine (m3 _).mono ?_); rintro _ _ ⟨rfl, _, rfl⟩)))
      all_goals first | (go_ret; refine ⟨rfl, ?_⟩; (repeat (refine below_drewN ?_ _)); first | exact hbel | exact grow_from hbel | exact Below.refl _ _) | (exfalso; simp_all; done) | (exfalso; simp_all; omega)

-- LIFT
set_option maxRecDepth 100000 in
theorem contract (H : Type) (enc : TypeId × Value → H) (W : World) (base : Nat) (args : Array Value) (ds gs : List (DataW H)) (before : List MemPlace)
    (hval : ∀ (j : Nat) t v, Tryd.f13.params[j]? = some t → args[j]? = some v → Value.okWide Tryd.prog W .any base t v)
    (hW : DataW.Whole enc Tryd.prog Tryd.f13.params.toList Rows.numNearestSpec.vars false W args.toList ds gs before) (hL : laidMetH Tryd.prog Rows.numNearestRow.laid W) :
    Calls Tryd.prog 13 args W fun e W' => ∃ v, e = .returned v ∧ Rows.numNearestSpec.post enc Tryd.prog Tryd.f13 false true false false W args v W' := by
  have hT := cell_of (show laidMetH Tryd.prog laidOf W from hL)
  clear hL
  have hts : Tryd.f13.params.toList.all (fun t => Tryd.prog.readableRec t && decide (t < Tryd.prog.types.size)) = true := by kernel_rfl
  have hW' := hW
  obtain ⟨p, q, hA0, hV, rfl, hfz, hnd⟩ := hW
  have hA : DataW.TrodAll enc Tryd.prog W 0 (fun _ => true) true Tryd.f13.params.toList args.toList ds p := hA0
  rw [Tryd.params13] at hA hval
  obtain ⟨v0, vs0, d0, ds0, p0, q0, hargs, rfl, rfl, h0, r0⟩ := trodAll_cons hA
  obtain ⟨v1, vs1, d1, ds1, p1, q1, rfl, rfl, rfl, h1, r1⟩ := trodAll_cons r0
  obtain ⟨rfl, rfl, rfl⟩ := trodAll_nil r1
  obtain rfl : args = #[v0, v1] := by cases args; simp_all
  obtain ⟨rfl, rfl⟩ := trodVars_none hV
  have hfn : Rows.numNearestSpec.fn H ([d0, d1] ++ []) = { results := [.lit (.bool true)], args := [d0, d1] } := rfl
  have hfin := fun W' (hbel : Below W.heap.size W W') => law_post (f := Tryd.f13) (s := Rows.numNearestSpec) 4 Tryd.laid hts rfl Tryd.underlying4 rfl hfn hW' hbel
  clear hA0 hts hfn
  obtain ⟨a0, rfl, rfl, rfl, w0⟩ := open_int Tryd.underlying22 (hval 0 22 v0 rfl rfl) h0
  obtain ⟨a1, rfl, rfl, rfl, w1⟩ := open_int Tryd.underlying22 (hval 1 22 v1 rfl rfl) h1
  have x0 : 0 ≤ a0 ∧ a0 ≤ 18446744073709551615 := by simpa [Lit.wf, IntKind.min, IntKind.max, IntKind.signed, IntKind.bits] using w0
  obtain ⟨n0, rfl⟩ := Int.eq_ofNat_of_zero_le x0.1
  have x1 : 0 ≤ a1 ∧ a1 ≤ 18446744073709551615 := by simpa [Lit.wf, IntKind.min, IntKind.max, IntKind.signed, IntKind.bits] using w1
  obtain ⟨n1, rfl⟩ := Int.eq_ofNat_of_zero_le x1.1
  exact (walk n0 n1 W hT (by unfold signB; omega) (by unfold signB; omega)).mono fun e W' ⟨he, hg⟩ => ⟨_, he, hfin W' hg⟩

theorem reads (os : Os) {H : Type} (enc : TypeId × Value → H) : ∃ places, DataW.whole enc Tryd.prog ((laidWorld os).forCall (fun _ _ => 0) ⟨#[], #[.int .u64 0, .int .u64 0], []⟩).memory Tryd.f13.params.toList Rows.numNearestSpec.vars false #[.int .u64 0, .int .u64 0].toList 8 = some ([.lit (.int .u64 0), .lit (.int .u64 0)], [], places) :=
  ⟨[], by kernel_rfl⟩
theorem laid_met (os : Os) : laidMet Tryd.prog Rows.numNearestRow.laid ((laidWorld os).forCall (fun _ _ => 0) ⟨#[], #[.int .u64 0, .int .u64 0], []⟩).memory := laid_here os #[.int .u64 0, .int .u64 0]

set_option maxRecDepth 100000 in
theorem lifted (os : Os) (started : os.Started) (H : Type) (enc : TypeId × Value → H) (F : Stop.Interp) :
    ReturnsInHanded {} Tryd.checked os 13 .any ((OpenSpec.ofChange Rows.numNearestSpec).preRow enc Tryd.prog Tryd.f13 Rows.numNearestRow.domain false Rows.numNearestRow.laid) (((OpenSpec.ofChange Rows.numNearestSpec).at F).post enc Tryd.prog Tryd.f13 false true false false) := by
  obtain ⟨places, hx⟩ := reads os enc
  refine returnsInHanded_of_row (C := Tryd.checked) (s := OpenSpec.ofChange Rows.numNearestSpec) Tryd.own started (by kernel_rfl) Tryd.func13
    (witness_row_atRef (enc := enc) (C := Tryd.checked) false (laidWorld os) #[.int .u64 0, .int .u64 0] rfl (by kernel_rfl) (by kernel_rfl) (by kernel_rfl)
      (OpenSpec.preRow_of_cond 8 hx (by kernel_rfl) (fun k hk => by cases hk) (by kernel_rfl) (laid_met os))) ?_
  intro W base args ds gs before hval hW _ _ _ hL _ _
  exact contract H enc W base args ds gs before hval hW hL

theorem said : Rows.NumNearestSaid :=
  OpenClaim.holds_of_cond 13 Tryd.f13 rfl rfl rfl rfl rfl rfl rfl ⟨rfl, rfl, rfl, rfl, rfl⟩ rfl rfl rfl rfl rfl (by kernel_rfl) Tryd.func13 (by kernel_rfl)
    (of_decide_eq_true (by kernel_rfl)) (by unfold Func.isWrapper; first | (rw [if_pos (by decide +kernel)]; kernel_rfl) | (rw [if_neg (by decide +kernel)]; exact ⟨rfl, rfl⟩))
    (fun os started H enc _ F => by rw [OpenClaim.pre_eq_preRow]; exact lifted os started H enc F)

theorem plain (f : FuncId) (fn : Func) (hf : Tryd.pinned.checked.prog.funcNamed "gaffer/gafferlaw01.NumNearest" = some f) (hfn : Tryd.pinned.checked.prog.funcs[f]? = some fn) :
    true = Tryd.pinned.checked.prog.looks [] ∧ ∀ (j : Nat) t, fn.params[j]? = some t → Tryd.pinned.checked.prog.wantsStandIn t = false := by
  obtain rfl : f = 13 := Option.some.inj ((show Tryd.prog.funcNamed "gaffer/gafferlaw01.NumNearest" = some 13 by kernel_rfl).symm.trans hf) |>.symm
  obtain rfl : fn = Tryd.f13 := (Option.some.inj (Tryd.func13.symm.trans hfn)).symm
  refine ⟨by kernel_rfl, fun j t ht => ?_⟩
  rw [Tryd.params13] at ht
  have hm := Array.mem_of_getElem? ht
  simp only [List.mem_toArray, List.mem_cons, List.not_mem_nil, or_false] at hm
  rcases hm with rfl | rfl
  · exact (show Tryd.prog.wantsStandIn 22 = false by kernel_rfl)
  · exact (show Tryd.prog.wantsStandIn 22 = false by kernel_rfl)

theorem proved : Rows.NumNearestCardSaid :=
  Claim7.holds_tied_plain_at .later [] _ _ _ _ said (fun _ h => by cases h) (by kernel_rfl) (fun _ h => by cases h) numNearest_row_tie rfl ⟨rfl, rfl⟩ (by kernel_rfl) rfl plain (by kernel_rfl)

end Go.Proofs.YthbdgdapchplgaaDoor.numNearest
