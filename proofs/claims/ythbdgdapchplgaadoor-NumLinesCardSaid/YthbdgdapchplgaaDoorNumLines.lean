/- NumLines: Order is one order, as a row and as a card. No condition. -/
import Derived.Test.YthbdgdapchplgaaDoorNumRow
set_option maxRecDepth 100000
namespace Go.Proofs.YthbdgdapchplgaaDoor.numLines
open Go.RowKit Go.WideShapes Go.ChangeShapes Go.ChangeAt
open Go.ChangeMaps (open_string shut_string)

set_option maxHeartbeats 2000000 in
set_option maxRecDepth 100000 in
theorem walk (a : Nat) (b : Nat) (c : Nat) (w : World) (hT : w.cell? TA = some (.int .u8 50)) (ha : a < 2 * signB) (hb : b < 2 * signB) (hc : c < 2 * signB) :
    Calls Tryd.prog 7 #[.int .u64 (a : Nat), .int .u64 (b : Nat), .int .u64 (c : Nat)] w fun e w' => e = .returned (.bool true) ∧ Below w.heap.size w w' := by
  have k1 := order_any ha hb
  have k2 := order_any hb ha
  rw [order_turn (a := a) (b := b)] at k2
  have k3 := canon_is ha
  have k4 := canon_is hb
  have k5 := order_any hb hc
  have k6 := order_any ha hc
  have k7 := class_any ha
  have k8 := class_any hb
  have k9 := less_any ha hb
  have m1 := equal_any ha hb
  have hz := order_zero ha hb
  have ht := @order_trans a b c
  have h3 := order_three a b
  obtain ⟨Z, hvZ⟩ : ∃ z0 : Int, z0 = forder a c := ⟨_, rfl⟩
  rw [← hvZ] at k6 ht
  clear hvZ
  obtain ⟨Y, hvY⟩ : ∃ z0 : Int, z0 = forder b c := ⟨_, rfl⟩
  rw [← hvY] at k5 ht
  clear hvY
  rcases h3 with hX | hX | hX
  · have hne : ¬ ((fcan a : Nat) : Int) = ((fcan b : Nat) : Int) := fun e => by
      have := hz.2 (Int.ofNat.inj e)
      rw [hX] at this
      cases this
    rw [hX] at k1 k2 ht
    obtain ⟨C, hvC⟩ : ∃ z0 : Int, z0 = ((fcan a : Nat) : Int) := ⟨_, rfl⟩
    rw [← hvC] at k3 hne
    clear hvC
    obtain ⟨D, hvD⟩ : ∃ z0 : Int, z0 = ((fcan b : Nat) : Int) := ⟨_, rfl⟩
    rw [← hvD] at k4 hne
    clear hvD
    by_cases hY : Y ≤ 0
    · have hZ := ht (by decide) hY
      clear ht hz
      by_cases na : isN a = true
      · rw [(class_nan a).2 na] at k7
        have e1 : fless a b = false := by
          rw [fless_val ha hb, na]
          rfl
        have e2 : fequal a b = false := by
          rw [fequal_val ha hb, na]
          rfl
        rw [e1] at k9
        rw [e2] at m1
        go_enter Tryd.func7, Tryd.ntmps7
        go_wp2_with (first | (go_at_call 14; (first | (refine (awake_any _ hT).mono ?_) | (refine (awake_any _ (cell_keeps (grow_drewN _ _) hT)).mono ?_)); rintro _ _ ⟨rfl, hbel⟩) | (go_at_call 19; first | (with_reducible (refine (k1 _).mono ?_); rintro _ _ ⟨rfl, _, rfl⟩) | (with_reducible (refine (k2 _).mono ?_); rintro _ _ ⟨rfl, _, rfl⟩) | (with_reducible (refine (k5 _).mono ?_); rintro _ _ ⟨rfl, _, rfl⟩) | (with_reducible (refine (k6 _).mono ?_); rintro _ _ ⟨rfl, _, rfl⟩)) | (go_at_call 26; first | (with_reducible (refine (k3 _).mono ?_); rintro _ _ ⟨rfl, _, rfl⟩) | (with_reducible (refine (k4 _).mono ?_); rintro _ _ ⟨rfl, _, rfl⟩)) | (go_at_call 25; first | (with_reducible (refine (k7 _).mono ?_); rintro _ _ ⟨rfl, _, rfl⟩) | (with_reducible (refine (k8 _).mono ?_); rintro _ _ ⟨rfl, _, rfl⟩)) | (go_at_call 15; first | (with_reducible (refine (k9 _).mono ?_); rintro _ _ ⟨rfl, _, rfl⟩)) | (go_at_call 17; first | (with_reducible (refine (m1 _).mono ?_); rintro _ _ ⟨rfl, _, rfl⟩)))
        all_goals first | (go_ret; refine ⟨rfl, ?_⟩; (repeat (refine below_drewN ?_ _)); first | exact hbel | exact grow_from hbel | exact Below.refl _ _) | (exfalso; simp_all; done) | (exfalso; simp_all; omega)
      have ca : ¬ fclass a = 0 := fun e => na ((class_nan a).1 e)
      by_cases nb : isN b = true
      · rw [(class_nan b).2 nb] at k8
        have e1 : fless a b = false := by
          rw [fless_val ha hb, nb]
          simp
        have e2 : fequal a b = false := by
          rw [fequal_val ha hb, nb]
          simp
        rw [e1] at k9
        rw [e2] at m1
        obtain ⟨A, hvA⟩ : ∃ z0 : Int, z0 = fclass a := ⟨_, rfl⟩
        rw [← hvA] at k7 ca
        clear hvA
        have ca1 : (A == 0) = false := beq_eq_false_iff_ne.2 ca
        go_enter Tryd.func7, Tryd.ntmps7
        go_wp2_with (first | (go_at_call 14; (first | (refine (awake_any _ hT).mono ?_) | (refine (awake_any _ (cell_keeps (grow_drewN _ _) hT)).mono ?_)); rintro _ _ ⟨rfl, hbel⟩) | (go_at_call 19; first | (with_reducible (refine (k1 _).mono ?_); rintro _ _ ⟨rfl, _, rfl⟩) | (with_reducible (refine (k2 _).mono ?_); rintro _ _ ⟨rfl, _, rfl⟩) | (with_reducible (refine (k5 _).mono ?_); rintro _ _ ⟨rfl, _, rfl⟩) | (with_reducible (refine (k6 _).mono ?_); rintro _ _ ⟨rfl, _, rfl⟩)) | (go_at_call 26; first | (with_reducible (refine (k3 _).mono ?_); rintro _ _ ⟨rfl, _, rfl⟩) | (with_reducible (refine (k4 _).mono ?_); rintro _ _ ⟨rfl, _, rfl⟩)) | (go_at_call 25; first | (with_reducible (refine (k7 _).mono ?_); rintro _ _ ⟨rfl, _, rfl⟩) | (with_reducible (refine (k8 _).mono ?_); rintro _ _ ⟨rfl, _, rfl⟩)) | (go_at_call 15; first | (with_reducible (refine (k9 _).mono ?_); rintro _ _ ⟨rfl, _, rfl⟩)) | (go_at_call 17; first | (with_reducible (refine (m1 _).mono ?_); rintro _ _ ⟨rfl, _, rfl⟩)))
        all_goals first | (go_ret; refine ⟨rfl, ?_⟩; (repeat (refine below_drewN ?_ _)); first | exact hbel | exact grow_from hbel | exact Below.refl _ _) | (exfalso; simp_all; done) | (exfalso; simp_all; omega)
      have cb : ¬ fclass b = 0 := fun e => nb ((class_nan b).1 e)
      rw [Bool.not_eq_true] at na nb
      obtain ⟨e1, e2⟩ := lines_less ha hb na nb
      rw [e1] at k9
      rw [e2] at m1
      rw [hX] at k9 m1
      have za := class_zero a
      have zb := class_zero b
      by_cases c1 : fclass a = 2
      · rw [c1] at k7
        rw [decide_eq_true (za.1 c1)] at k9 m1
        by_cases c2 : fclass b = 2
        · rw [c2] at k8
          rw [decide_eq_true (zb.1 c2)] at k9 m1
          go_enter Tryd.func7, Tryd.ntmps7
          go_wp2_with (first | (go_at_call 14; (first | (refine (awake_any _ hT).mono ?_) | (refine (awake_any _ (cell_keeps (grow_drewN _ _) hT)).mono ?_)); rintro _ _ ⟨rfl, hbel⟩) | (go_at_call 19; first | (with_reducible (refine (k1 _).mono ?_); rintro _ _ ⟨rfl, _, rfl⟩) | (with_reducible (refine (k2 _).mono ?_); rintro _ _ ⟨rfl, _, rfl⟩) | (with_reducible (refine (k5 _).mono ?_); rintro _ _ ⟨rfl, _, rfl⟩) | (with_reducible (refine (k6 _).mono ?_); rintro _ _ ⟨rfl, _, rfl⟩)) | (go_at_call 26; first | (with_reducible (refine (k3 _).mono ?_); rintro _ _ ⟨rfl, _, rfl⟩) | (with_reducible (refine (k4 _).mono ?_); rintro _ _ ⟨rfl, _, rfl⟩)) | (go_at_call 25; first | (with_reducible (refine (k7 _).mono ?_); rintro _ _ ⟨rfl, _, rfl⟩) | (with_reducible (refine (k8 _).mono ?_); rintro _ _ ⟨rfl, _, rfl⟩)) | (go_at_call 15; first | (with_reducible (refine (k9 _).mono ?_); rintro _ _ ⟨rfl, _, rfl⟩)) | (go_at_call 17; first | (with_reducible (refine (m1 _).mono ?_); rintro _ _ ⟨rfl, _, rfl⟩)))
          all_goals first | (go_ret; refine ⟨rfl, ?_⟩; (repeat (refine below_drewN ?_ _)); first | exact hbel | exact grow_from hbel | exact Below.refl _ _) | (exfalso; simp_all; done) | (exfalso; simp_all; omega)
        · rw [decide_eq_false (mt zb.2 c2)] at k9 m1
          obtain ⟨B, hvB⟩ : ∃ z0 : Int, z0 = fclass b := ⟨_, rfl⟩
          rw [← hvB] at k8 cb c2
          clear hvB
          have cb1 : (B == 0) = false := beq_eq_false_iff_ne.2 cb
          have cb2 : (B == 2) = false := beq_eq_false_iff_ne.2 c2
          go_enter Tryd.func7, Tryd.ntmps7
          go_wp2_with (first | (go_at_call 14; (first | (refine (awake_any _ hT).mono ?_) | (refine (awake_any _ (cell_keeps (grow_drewN _ _) hT)).mono ?_)); rintro _ _ ⟨rfl, hbel⟩) | (go_at_call 19; first | (with_reducible (refine (k1 _).mono ?_); rintro _ _ ⟨rfl, _, rfl⟩) | (with_reducible (refine (k2 _).mono ?_); rintro _ _ ⟨rfl, _, rfl⟩) | (with_reducible (refine (k5 _).mono ?_); rintro _ _ ⟨rfl, _, rfl⟩) | (with_reducible (refine (k6 _).mono ?_); rintro _ _ ⟨rfl, _, rfl⟩)) | (go_at_call 26; first | (with_reducible (refine (k3 _).mono ?_); rintro _ _ ⟨rfl, _, rfl⟩) | (with_reducible (refine (k4 _).mono ?_); rintro _ _ ⟨rfl, _, rfl⟩)) | (go_at_call 25; first | (with_reducible (refine (k7 _).mono ?_); rintro _ _ ⟨rfl, _, rfl⟩) | (with_reducible (refine (k8 _).mono ?_); rintro _ _ ⟨rfl, _, rfl⟩)) | (go_at_call 15; first | (with_reducible (refine (k9 _).mono ?_); rintro _ _ ⟨rfl, _, rfl⟩)) | (go_at_call 17; first | (with_reducible (refine (m1 _).mono ?_); rintro _ _ ⟨rfl, _, rfl⟩)))
          all_goals first | (go_ret; refine ⟨rfl, ?_⟩; (repeat (refine below_drewN ?_ _)); first | exact hbel | exact grow_from hbel | exact Below.refl _ _) | (exfalso; simp_all; done) | (exfalso; simp_all; omega)
      · rw [decide_eq_false (mt za.2 c1)] at k9 m1
        obtain ⟨A, hvA⟩ : ∃ z0 : Int, z0 = fclass a := ⟨_, rfl⟩
        rw [← hvA] at k7 ca c1
        clear hvA
        obtain ⟨B, hvB⟩ : ∃ z0 : Int, z0 = fclass b := ⟨_, rfl⟩
        rw [← hvB] at k8 cb
        clear hvB
        have ca1 : (A == 0) = false := beq_eq_false_iff_ne.2 ca
        have ca2 : (A == 2) = false := beq_eq_false_iff_ne.2 c1
        have cb1 : (B == 0) = false := beq_eq_false_iff_ne.2 cb
        go_enter Tryd.func7, Tryd.ntmps7
        go_wp2_with (first | (go_at_call 14; (first | (refine (awake_any _ hT).mono ?_) | (refine (awake_any _ (cell_keeps (grow_drewN _ _) hT)).mono ?_)); rintro _ _ ⟨rfl, hbel⟩) | (go_at_call 19; first | (with_reducible (refine (k1 _).mono ?_); rintro _ _ ⟨rfl, _, rfl⟩) | (with_reducible (refine (k2 _).mono ?_); rintro _ _ ⟨rfl, _, rfl⟩) | (with_reducible (refine (k5 _).mono ?_); rintro _ _ ⟨rfl, _, rfl⟩) | (with_reducible (refine (k6 _).mono ?_); rintro _ _ ⟨rfl, _, rfl⟩)) | (go_at_call 26; first | (with_reducible (refine (k3 _).mono ?_); rintro _ _ ⟨rfl, _, rfl⟩) | (with_reducible (refine (k4 _).mono ?_); rintro _ _ ⟨rfl, _, rfl⟩)) | (go_at_call 25; first | (with_reducible (refine (k7 _).mono ?_); rintro _ _ ⟨rfl, _, rfl⟩) | (with_reducible (refine (k8 _).mono ?_); rintro _ _ ⟨rfl, _, rfl⟩)) | (go_at_call 15; first | (with_reducible (refine (k9 _).mono ?_); rintro _ _ ⟨rfl, _, rfl⟩)) | (go_at_call 17; first | (with_reducible (refine (m1 _).mono ?_); rintro _ _ ⟨rfl, _, rfl⟩)))
        all_goals first | (go_ret; refine ⟨rfl, ?_⟩; (repeat (refine below_drewN ?_ _)); first | exact hbel | exact grow_from hbel | exact Below.refl _ _) | (exfalso; simp_all; done) | (exfalso; simp_all; omega)
    · clear ht hz
      by_cases na : isN a = true
      · rw [(class_nan a).2 na] at k7
        have e1 : fless a b = false := by
          rw [fless_val ha hb, na]
          rfl
        have e2 : fequal a b = false := by
          rw [fequal_val ha hb, na]
          rfl
        rw [e1] at k9
        rw [e2] at m1
        go_enter Tryd.func7, Tryd.ntmps7
        go_wp2_with (first | (go_at_call 14; (first | (refine (awake_any _ hT).mono ?_) | (refine (awake_any _ (cell_keeps (grow_drewN _ _) hT)).mono ?_)); rintro _ _ ⟨rfl, hbel⟩) | (go_at_call 19; first | (with_reducible (refine (k1 _).mono ?_); rintro _ _ ⟨rfl, _, rfl⟩) | (with_reducible (refine (k2 _).mono ?_); rintro _ _ ⟨rfl, _, rfl⟩) | (with_reducible (refine (k5 _).mono ?_); rintro _ _ ⟨rfl, _, rfl⟩) | (with_reducible (refine (k6 _).mono ?_); rintro _ _ ⟨rfl, _, rfl⟩)) | (go_at_call 26; first | (with_reducible (refine (k3 _).mono ?_); rintro _ _ ⟨rfl, _, rfl⟩) | (with_reducible (refine (k4 _).mono ?_); rintro _ _ ⟨rfl, _, rfl⟩)) | (go_at_call 25; first | (with_reducible (refine (k7 _).mono ?_); rintro _ _ ⟨rfl, _, rfl⟩) | (with_reducible (refine (k8 _).mono ?_); rintro _ _ ⟨rfl, _, rfl⟩)) | (go_at_call 15; first | (with_reducible (refine (k9 _).mono ?_); rintro _ _ ⟨rfl, _, rfl⟩)) | (go_at_call 17; first | (with_reducible (refine (m1 _).mono ?_); rintro _ _ ⟨rfl, _, rfl⟩)))
        all_goals first | (go_ret; refine ⟨rfl, ?_⟩; (repeat (refine below_drewN ?_ _)); first | exact hbel | exact grow_from hbel | exact Below.refl _ _) | (exfalso; simp_all; done) | (exfalso; simp_all; omega)
      have ca : ¬ fclass a = 0 := fun e => na ((class_nan a).1 e)
      by_cases nb : isN b = true
      · rw [(class_nan b).2 nb] at k8
        have e1 : fless a b = false := by
          rw [fless_val ha hb, nb]
          simp
        have e2 : fequal a b = false := by
          rw [fequal_val ha hb, nb]
          simp
        rw [e1] at k9
        rw [e2] at m1
        obtain ⟨A, hvA⟩ : ∃ z0 : Int, z0 = fclass a := ⟨_, rfl⟩
        rw [← hvA] at k7 ca
        clear hvA
        have ca1 : (A == 0) = false := beq_eq_false_iff_ne.2 ca
        go_enter Tryd.func7, Tryd.ntmps7
        go_wp2_with (first | (go_at_call 14; (first | (refine (awake_any _ hT).mono ?_) | (refine (awake_any _ (cell_keeps (grow_drewN _ _) hT)).mono ?_)); rintro _ _ ⟨rfl, hbel⟩) | (go_at_call 19; first | (with_reducible (refine (k1 _).mono ?_); rintro _ _ ⟨rfl, _, rfl⟩) | (with_reducible (refine (k2 _).mono ?_); rintro _ _ ⟨rfl, _, rfl⟩) | (with_reducible (refine (k5 _).mono ?_); rintro _ _ ⟨rfl, _, rfl⟩) | (with_reducible (refine (k6 _).mono ?_); rintro _ _ ⟨rfl, _, rfl⟩)) | (go_at_call 26; first | (with_reducible (refine (k3 _).mono ?_); rintro _ _ ⟨rfl, _, rfl⟩) | (with_reducible (refine (k4 _).mono ?_); rintro _ _ ⟨rfl, _, rfl⟩)) | (go_at_call 25; first | (with_reducible (refine (k7 _).mono ?_); rintro _ _ ⟨rfl, _, rfl⟩) | (with_reducible (refine (k8 _).mono ?_); rintro _ _ ⟨rfl, _, rfl⟩)) | (go_at_call 15; first | (with_reducible (refine (k9 _).mono ?_); rintro _ _ ⟨rfl, _, rfl⟩)) | (go_at_call 17; first | (with_reducible (refine (m1 _).mono ?_); rintro _ _ ⟨rfl, _, rfl⟩)))
        all_goals first | (go_ret; refine ⟨rfl, ?_⟩; (repeat (refine below_drewN ?_ _)); first | exact hbel | exact grow_from hbel | exact Below.refl _ _) | (exfalso; simp_all; done) | (exfalso; simp_all; omega)
      have cb : ¬ fclass b = 0 := fun e => nb ((class_nan b).1 e)
      rw [Bool.not_eq_true] at na nb
      obtain ⟨e1, e2⟩ := lines_less ha hb na nb
      rw [e1] at k9
      rw [e2] at m1
      rw [hX] at k9 m1
      have za := class_zero a
      have zb := class_zero b
      by_cases c1 : fclass a = 2
      · rw [c1] at k7
        rw [decide_eq_true (za.1 c1)] at k9 m1
        by_cases c2 : fclass b = 2
        · rw [c2] at k8
          rw [decide_eq_true (zb.1 c2)] at k9 m1
          go_enter Tryd.func7, Tryd.ntmps7
          go_wp2_with (first | (go_at_call 14; (first | (refine (awake_any _ hT).mono ?_) | (refine (awake_any _ (cell_keeps (grow_drewN _ _) hT)).mono ?_)); rintro _ _ ⟨rfl, hbel⟩) | (go_at_call 19; first | (with_reducible (refine (k1 _).mono ?_); rintro _ _ ⟨rfl, _, rfl⟩) | (with_reducible (refine (k2 _).mono ?_); rintro _ _ ⟨rfl, _, rfl⟩) | (with_reducible (refine (k5 _).mono ?_); rintro _ _ ⟨rfl, _, rfl⟩) | (with_reducible (refine (k6 _).mono ?_); rintro _ _ ⟨rfl, _, rfl⟩)) | (go_at_call 26; first | (with_reducible (refine (k3 _).mono ?_); rintro _ _ ⟨rfl, _, rfl⟩) | (with_reducible (refine (k4 _).mono ?_); rintro _ _ ⟨rfl, _, rfl⟩)) | (go_at_call 25; first | (with_reducible (refine (k7 _).mono ?_); rintro _ _ ⟨rfl, _, rfl⟩) | (with_reducible (refine (k8 _).mono ?_); rintro _ _ ⟨rfl, _, rfl⟩)) | (go_at_call 15; first | (with_reducible (refine (k9 _).mono ?_); rintro _ _ ⟨rfl, _, rfl⟩)) | (go_at_call 17; first | (with_reducible (refine (m1 _).mono ?_); rintro _ _ ⟨rfl, _, rfl⟩)))
          all_goals first | (go_ret; refine ⟨rfl, ?_⟩; (repeat (refine below_drewN ?_ _)); first | exact hbel | exact grow_from hbel | exact Below.refl _ _) | (exfalso; simp_all; done) | (exfalso; simp_all; omega)
        · rw [decide_eq_false (mt zb.2 c2)] at k9 m1
          obtain ⟨B, hvB⟩ : ∃ z0 : Int, z0 = fclass b := ⟨_, rfl⟩
          rw [← hvB] at k8 cb c2
          clear hvB
          have cb1 : (B == 0) = false := beq_eq_false_iff_ne.2 cb
          have cb2 : (B == 2) = false := beq_eq_false_iff_ne.2 c2
          go_enter Tryd.func7, Tryd.ntmps7
          go_wp2_with (first | (go_at_call 14; (first | (refine (awake_any _ hT).mono ?_) | (refine (awake_any _ (cell_keeps (grow_drewN _ _) hT)).mono ?_)); rintro _ _ ⟨rfl, hbel⟩) | (go_at_call 19; first | (with_reducible (refine (k1 _).mono ?_); rintro _ _ ⟨rfl, _, rfl⟩) | (with_reducible (refine (k2 _).mono ?_); rintro _ _ ⟨rfl, _, rfl⟩) | (with_reducible (refine (k5 _).mono ?_); rintro _ _ ⟨rfl, _, rfl⟩) | (with_reducible (refine (k6 _).mono ?_); rintro _ _ ⟨rfl, _, rfl⟩)) | (go_at_call 26; first | (with_reducible (refine (k3 _).mono ?_); rintro _ _ ⟨rfl, _, rfl⟩) | (with_reducible (refine (k4 _).mono ?_); rintro _ _ ⟨rfl, _, rfl⟩)) | (go_at_call 25; first | (with_reducible (refine (k7 _).mono ?_); rintro _ _ ⟨rfl, _, rfl⟩) | (with_reducible (refine (k8 _).mono ?_); rintro _ _ ⟨rfl, _, rfl⟩)) | (go_at_call 15; first | (with_reducible (refine (k9 _).mono ?_); rintro _ _ ⟨rfl, _, rfl⟩)) | (go_at_call 17; first | (with_reducible (refine (m1 _).mono ?_); rintro _ _ ⟨rfl, _, rfl⟩)))
          all_goals first | (go_ret; refine ⟨rfl, ?_⟩; (repeat (refine below_drewN ?_ _)); first | exact hbel | exact grow_from hbel | exact Below.refl _ _) | (exfalso; simp_all; done) | (exfalso; simp_all; omega)
      · rw [decide_eq_false (mt za.2 c1)] at k9 m1
        obtain ⟨A, hvA⟩ : ∃ z0 : Int, z0 = fclass a := ⟨_, rfl⟩
        rw [← hvA] at k7 ca c1
        clear hvA
        obtain ⟨B, hvB⟩ : ∃ z0 : Int, z0 = fclass b := ⟨_, rfl⟩
        rw [← hvB] at k8 cb
        clear hvB
        have ca1 : (A == 0) = false := beq_eq_false_iff_ne.2 ca
        have ca2 : (A == 2) = false := beq_eq_false_iff_ne.2 c1
        have cb1 : (B == 0) = false := beq_eq_false_iff_ne.2 cb
        go_enter Tryd.func7, Tryd.ntmps7
        go_wp2_with (first | (go_at_call 14; (first | (refine (awake_any _ hT).mono ?_) | (refine (awake_any _ (cell_keeps (grow_drewN _ _) hT)).mono ?_)); rintro _ _ ⟨rfl, hbel⟩) | (go_at_call 19; first | (with_reducible (refine (k1 _).mono ?_); rintro _ _ ⟨rfl, _, rfl⟩) | (with_reducible (refine (k2 _).mono ?_); rintro _ _ ⟨rfl, _, rfl⟩) | (with_reducible (refine (k5 _).mono ?_); rintro _ _ ⟨rfl, _, rfl⟩) | (with_reducible (refine (k6 _).mono ?_); rintro _ _ ⟨rfl, _, rfl⟩)) | (go_at_call 26; first | (with_reducible (refine (k3 _).mono ?_); rintro _ _ ⟨rfl, _, rfl⟩) | (with_reducible (refine (k4 _).mono ?_); rintro _ _ ⟨rfl, _, rfl⟩)) | (go_at_call 25; first | (with_reducible (refine (k7 _).mono ?_); rintro _ _ ⟨rfl, _, rfl⟩) | (with_reducible (refine (k8 _).mono ?_); rintro _ _ ⟨rfl, _, rfl⟩)) | (go_at_call 15; first | (with_reducible (refine (k9 _).mono ?_); rintro _ _ ⟨rfl, _, rfl⟩)) | (go_at_call 17; first | (with_reducible (refine (m1 _).mono ?_); rintro _ _ ⟨rfl, _, rfl⟩)))
        all_goals first | (go_ret; refine ⟨rfl, ?_⟩; (repeat (refine below_drewN ?_ _)); first | exact hbel | exact grow_from hbel | exact Below.refl _ _) | (exfalso; simp_all; done) | (exfalso; simp_all; omega)
  · have he := hz.1 hX
    rw [← he] at k4
    rw [hX] at k1 k2 ht
    obtain ⟨C, hvC⟩ : ∃ z0 : Int, z0 = ((fcan a : Nat) : Int) := ⟨_, rfl⟩
    rw [← hvC] at k3 k4
    clear hvC
    by_cases hY : Y ≤ 0
    · have hZ := ht (by decide) hY
      clear ht hz he
      by_cases na : isN a = true
      · rw [(class_nan a).2 na] at k7
        have e1 : fless a b = false := by
          rw [fless_val ha hb, na]
          rfl
        have e2 : fequal a b = false := by
          rw [fequal_val ha hb, na]
          rfl
        rw [e1] at k9
        rw [e2] at m1
        go_enter Tryd.func7, Tryd.ntmps7
        go_wp2_with (first | (go_at_call 14; (first | (refine (awake_any _ hT).mono ?_) | (refine (awake_any _ (cell_keeps (grow_drewN _ _) hT)).mono ?_)); rintro _ _ ⟨rfl, hbel⟩) | (go_at_call 19; first | (with_reducible (refine (k1 _).mono ?_); rintro _ _ ⟨rfl, _, rfl⟩) | (with_reducible (refine (k2 _).mono ?_); rintro _ _ ⟨rfl, _, rfl⟩) | (with_reducible (refine (k5 _).mono ?_); rintro _ _ ⟨rfl, _, rfl⟩) | (with_reducible (refine (k6 _).mono ?_); rintro _ _ ⟨rfl, _, rfl⟩)) | (go_at_call 26; first | (with_reducible (refine (k3 _).mono ?_); rintro _ _ ⟨rfl, _, rfl⟩) | (with_reducible (refine (k4 _).mono ?_); rintro _ _ ⟨rfl, _, rfl⟩)) | (go_at_call 25; first | (with_reducible (refine (k7 _).mono ?_); rintro _ _ ⟨rfl, _, rfl⟩) | (with_reducible (refine (k8 _).mono ?_); rintro _ _ ⟨rfl, _, rfl⟩)) | (go_at_call 15; first | (with_reducible (refine (k9 _).mono ?_); rintro _ _ ⟨rfl, _, rfl⟩)) | (go_at_call 17; first | (with_reducible (refine (m1 _).mono ?_); rintro _ _ ⟨rfl, _, rfl⟩)))
        all_goals first | (go_ret; refine ⟨rfl, ?_⟩; (repeat (refine below_drewN ?_ _)); first | exact hbel | exact grow_from hbel | exact Below.refl _ _) | (exfalso; simp_all; done) | (exfalso; simp_all; omega)
      have ca : ¬ fclass a = 0 := fun e => na ((class_nan a).1 e)
      by_cases nb : isN b = true
      · rw [(class_nan b).2 nb] at k8
        have e1 : fless a b = false := by
          rw [fless_val ha hb, nb]
          simp
        have e2 : fequal a b = false := by
          rw [fequal_val ha hb, nb]
          simp
        rw [e1] at k9
        rw [e2] at m1
        obtain ⟨A, hvA⟩ : ∃ z0 : Int, z0 = fclass a := ⟨_, rfl⟩
        rw [← hvA] at k7 ca
        clear hvA
        have ca1 : (A == 0) = false := beq_eq_false_iff_ne.2 ca
        go_enter Tryd.func7, Tryd.ntmps7
        go_wp2_with (first | (go_at_call 14; (first | (refine (awake_any _ hT).mono ?_) | (refine (awake_any _ (cell_keeps (grow_drewN _ _) hT)).mono ?_)); rintro _ _ ⟨rfl, hbel⟩) | (go_at_call 19; first | (with_reducible (refine (k1 _).mono ?_); rintro _ _ ⟨rfl, _, rfl⟩) | (with_reducible (refine (k2 _).mono ?_); rintro _ _ ⟨rfl, _, rfl⟩) | (with_reducible (refine (k5 _).mono ?_); rintro _ _ ⟨rfl, _, rfl⟩) | (with_reducible (refine (k6 _).mono ?_); rintro _ _ ⟨rfl, _, rfl⟩)) | (go_at_call 26; first | (with_reducible (refine (k3 _).mono ?_); rintro _ _ ⟨rfl, _, rfl⟩) | (with_reducible (refine (k4 _).mono ?_); rintro _ _ ⟨rfl, _, rfl⟩)) | (go_at_call 25; first | (with_reducible (refine (k7 _).mono ?_); rintro _ _ ⟨rfl, _, rfl⟩) | (with_reducible (refine (k8 _).mono ?_); rintro _ _ ⟨rfl, _, rfl⟩)) | (go_at_call 15; first | (with_reducible (refine (k9 _).mono ?_); rintro _ _ ⟨rfl, _, rfl⟩)) | (go_at_call 17; first | (with_reducible (refine (m1 _).mono ?_); rintro _ _ ⟨rfl, _, rfl⟩)))
        all_goals first | (go_ret; refine ⟨rfl, ?_⟩; (repeat (refine below_drewN ?_ _)); first | exact hbel | exact grow_from hbel | exact Below.refl _ _) | (exfalso; simp_all; done) | (exfalso; simp_all; omega)
      have cb : ¬ fclass b = 0 := fun e => nb ((class_nan b).1 e)
      rw [Bool.not_eq_true] at na nb
      obtain ⟨e1, e2⟩ := lines_less ha hb na nb
      rw [e1] at k9
      rw [e2] at m1
      rw [hX] at k9 m1
      have za := class_zero a
      have zb := class_zero b
      by_cases c1 : fclass a = 2
      · rw [c1] at k7
        rw [decide_eq_true (za.1 c1)] at k9 m1
        by_cases c2 : fclass b = 2
        · rw [c2] at k8
          rw [decide_eq_true (zb.1 c2)] at k9 m1
          go_enter Tryd.func7, Tryd.ntmps7
          go_wp2_with (first | (go_at_call 14; (first | (refine (awake_any _ hT).mono ?_) | (refine (awake_any _ (cell_keeps (grow_drewN _ _) hT)).mono ?_)); rintro _ _ ⟨rfl, hbel⟩) | (go_at_call 19; first | (with_reducible (refine (k1 _).mono ?_); rintro _ _ ⟨rfl, _, rfl⟩) | (with_reducible (refine (k2 _).mono ?_); rintro _ _ ⟨rfl, _, rfl⟩) | (with_reducible (refine (k5 _).mono ?_); rintro _ _ ⟨rfl, _, rfl⟩) | (with_reducible (refine (k6 _).mono ?_); rintro _ _ ⟨rfl, _, rfl⟩)) | (go_at_call 26; first | (with_reducible (refine (k3 _).mono ?_); rintro _ _ ⟨rfl, _, rfl⟩) | (with_reducible (refine (k4 _).mono ?_); rintro _ _ ⟨rfl, _, rfl⟩)) | (go_at_call 25; first | (with_reducible (refine (k7 _).mono ?_); rintro _ _ ⟨rfl, _, rfl⟩) | (with_reducible (refine (k8 _).mono ?_); rintro _ _ ⟨rfl, _, rfl⟩)) | (go_at_call 15; first | (with_reducible (refine (k9 _).mono ?_); rintro _ _ ⟨rfl, _, rfl⟩)) | (go_at_call 17; first | (with_reducible (refine (m1 _).mono ?_); rintro _ _ ⟨rfl, _, rfl⟩)))
          all_goals first | (go_ret; refine ⟨rfl, ?_⟩; (repeat (refine below_drewN ?_ _)); first | exact hbel | exact grow_from hbel | exact Below.refl _ _) | (exfalso; simp_all; done) | (exfalso; simp_all; omega)
        · rw [decide_eq_false (mt zb.2 c2)] at k9 m1
          obtain ⟨B, hvB⟩ : ∃ z0 : Int, z0 = fclass b := ⟨_, rfl⟩
          rw [← hvB] at k8 cb c2
          clear hvB
          have cb1 : (B == 0) = false := beq_eq_false_iff_ne.2 cb
          have cb2 : (B == 2) = false := beq_eq_false_iff_ne.2 c2
          go_enter Tryd.func7, Tryd.ntmps7
          go_wp2_with (first | (go_at_call 14; (first | (refine (awake_any _ hT).mono ?_) | (refine (awake_any _ (cell_keeps (grow_drewN _ _) hT)).mono ?_)); rintro _ _ ⟨rfl, hbel⟩) | (go_at_call 19; first | (with_reducible (refine (k1 _).mono ?_); rintro _ _ ⟨rfl, _, rfl⟩) | (with_reducible (refine (k2 _).mono ?_); rintro _ _ ⟨rfl, _, rfl⟩) | (with_reducible (refine (k5 _).mono ?_); rintro _ _ ⟨rfl, _, rfl⟩) | (with_reducible (refine (k6 _).mono ?_); rintro _ _ ⟨rfl, _, rfl⟩)) | (go_at_call 26; first | (with_reducible (refine (k3 _).mono ?_); rintro _ _ ⟨rfl, _, rfl⟩) | (with_reducible (refine (k4 _).mono ?_); rintro _ _ ⟨rfl, _, rfl⟩)) | (go_at_call 25; first | (with_reducible (refine (k7 _).mono ?_); rintro _ _ ⟨rfl, _, rfl⟩) | (with_reducible (refine (k8 _).mono ?_); rintro _ _ ⟨rfl, _, rfl⟩)) | (go_at_call 15; first | (with_reducible (refine (k9 _).mono ?_); rintro _ _ ⟨rfl, _, rfl⟩)) | (go_at_call 17; first | (with_reducible (refine (m1 _).mono ?_); rintro _ _ ⟨rfl, _, rfl⟩)))
          all_goals first | (go_ret; refine ⟨rfl, ?_⟩; (repeat (refine below_drewN ?_ _)); first | exact hbel | exact grow_from hbel | exact Below.refl _ _) | (exfalso; simp_all; done) | (exfalso; simp_all; omega)
      · rw [decide_eq_false (mt za.2 c1)] at k9 m1
        obtain ⟨A, hvA⟩ : ∃ z0 : Int, z0 = fclass a := ⟨_, rfl⟩
        rw [← hvA] at k7 ca c1
        clear hvA
        obtain ⟨B, hvB⟩ : ∃ z0 : Int, z0 = fclass b := ⟨_, rfl⟩
        rw [← hvB] at k8 cb
        clear hvB
        have ca1 : (A == 0) = false := beq_eq_false_iff_ne.2 ca
        have ca2 : (A == 2) = false := beq_eq_false_iff_ne.2 c1
        have cb1 : (B == 0) = false := beq_eq_false_iff_ne.2 cb
        go_enter Tryd.func7, Tryd.ntmps7
        go_wp2_with (first | (go_at_call 14; (first | (refine (awake_any _ hT).mono ?_) | (refine (awake_any _ (cell_keeps (grow_drewN _ _) hT)).mono ?_)); rintro _ _ ⟨rfl, hbel⟩) | (go_at_call 19; first | (with_reducible (refine (k1 _).mono ?_); rintro _ _ ⟨rfl, _, rfl⟩) | (with_reducible (refine (k2 _).mono ?_); rintro _ _ ⟨rfl, _, rfl⟩) | (with_reducible (refine (k5 _).mono ?_); rintro _ _ ⟨rfl, _, rfl⟩) | (with_reducible (refine (k6 _).mono ?_); rintro _ _ ⟨rfl, _, rfl⟩)) | (go_at_call 26; first | (with_reducible (refine (k3 _).mono ?_); rintro _ _ ⟨rfl, _, rfl⟩) | (with_reducible (refine (k4 _).mono ?_); rintro _ _ ⟨rfl, _, rfl⟩)) | (go_at_call 25; first | (with_reducible (refine (k7 _).mono ?_); rintro _ _ ⟨rfl, _, rfl⟩) | (with_reducible (refine (k8 _).mono ?_); rintro _ _ ⟨rfl, _, rfl⟩)) | (go_at_call 15; first | (with_reducible (refine (k9 _).mono ?_); rintro _ _ ⟨rfl, _, rfl⟩)) | (go_at_call 17; first | (with_reducible (refine (m1 _).mono ?_); rintro _ _ ⟨rfl, _, rfl⟩)))
        all_goals first | (go_ret; refine ⟨rfl, ?_⟩; (repeat (refine below_drewN ?_ _)); first | exact hbel | exact grow_from hbel | exact Below.refl _ _) | (exfalso; simp_all; done) | (exfalso; simp_all; omega)
    · clear ht hz he
      by_cases na : isN a = true
      · rw [(class_nan a).2 na] at k7
        have e1 : fless a b = false := by
          rw [fless_val ha hb, na]
          rfl
        have e2 : fequal a b = false := by
          rw [fequal_val ha hb, na]
          rfl
        rw [e1] at k9
        rw [e2] at m1
        go_enter Tryd.func7, Tryd.ntmps7
        go_wp2_with (first | (go_at_call 14; (first | (refine (awake_any _ hT).mono ?_) | (refine (awake_any _ (cell_keeps (grow_drewN _ _) hT)).mono ?_)); rintro _ _ ⟨rfl, hbel⟩) | (go_at_call 19; first | (with_reducible (refine (k1 _).mono ?_); rintro _ _ ⟨rfl, _, rfl⟩) | (with_reducible (refine (k2 _).mono ?_); rintro _ _ ⟨rfl, _, rfl⟩) | (with_reducible (refine (k5 _).mono ?_); rintro _ _ ⟨rfl, _, rfl⟩) | (with_reducible (refine (k6 _).mono ?_); rintro _ _ ⟨rfl, _, rfl⟩)) | (go_at_call 26; first | (with_reducible (refine (k3 _).mono ?_); rintro _ _ ⟨rfl, _, rfl⟩) | (with_reducible (refine (k4 _).mono ?_); rintro _ _ ⟨rfl, _, rfl⟩)) | (go_at_call 25; first | (with_reducible (refine (k7 _).mono ?_); rintro _ _ ⟨rfl, _, rfl⟩) | (with_reducible (refine (k8 _).mono ?_); rintro _ _ ⟨rfl, _, rfl⟩)) | (go_at_call 15; first | (with_reducible (refine (k9 _).mono ?_); rintro _ _ ⟨rfl, _, rfl⟩)) | (go_at_call 17; first | (with_reducible (refine (m1 _).mono ?_); rintro _ _ ⟨rfl, _, rfl⟩)))
        all_goals first | (go_ret; refine ⟨rfl, ?_⟩; (repeat (refine below_drewN ?_ _)); first | exact hbel | exact grow_from hbel | exact Below.refl _ _) | (exfalso; simp_all; done) | (exfalso; simp_all; omega)
      have ca : ¬ fclass a = 0 := fun e => na ((class_nan a).1 e)
      by_cases nb : isN b = true
      · rw [(class_nan b).2 nb] at k8
        have e1 : fless a b = false := by
          rw [fless_val ha hb, nb]
          simp
        have e2 : fequal a b = false := by
          rw [fequal_val ha hb, nb]
          simp
        rw [e1] at k9
        rw [e2] at m1
        obtain ⟨A, hvA⟩ : ∃ z0 : Int, z0 = fclass a := ⟨_, rfl⟩
        rw [← hvA] at k7 ca
        clear hvA
        have ca1 : (A == 0) = false := beq_eq_false_iff_ne.2 ca
        go_enter Tryd.func7, Tryd.ntmps7
        go_wp2_with (first | (go_at_call 14; (first | (refine (awake_any _ hT).mono ?_) | (refine (awake_any _ (cell_keeps (grow_drewN _ _) hT)).mono ?_)); rintro _ _ ⟨rfl, hbel⟩) | (go_at_call 19; first | (with_reducible (refine (k1 _).mono ?_); rintro _ _ ⟨rfl, _, rfl⟩) | (with_reducible (refine (k2 _).mono ?_); rintro _ _ ⟨rfl, _, rfl⟩) | (with_reducible (refine (k5 _).mono ?_); rintro _ _ ⟨rfl, _, rfl⟩) | (with_reducible (refine (k6 _).mono ?_); rintro _ _ ⟨rfl, _, rfl⟩)) | (go_at_call 26; first | (with_reducible (refine (k3 _).mono ?_); rintro _ _ ⟨rfl, _, rfl⟩) | (with_reducible (refine (k4 _).mono ?_); rintro _ _ ⟨rfl, _, rfl⟩)) | (go_at_call 25; first | (with_reducible (refine (k7 _).mono ?_); rintro _ _ ⟨rfl, _, rfl⟩) | (with_reducible (refine (k8 _).mono ?_); rintro _ _ ⟨rfl, _, rfl⟩)) | (go_at_call 15; first | (with_reducible (refine (k9 _).mono ?_); rintro _ _ ⟨rfl, _, rfl⟩)) | (go_at_call 17; first | (with_reducible (refine (m1 _).mono ?_); rintro _ _ ⟨rfl, _, rfl⟩)))
        all_goals first | (go_ret; refine ⟨rfl, ?_⟩; (repeat (refine below_drewN ?_ _)); first | exact hbel | exact grow_from hbel | exact Below.refl _ _) | (exfalso; simp_all; done) | (exfalso; simp_all; omega)
      have cb : ¬ fclass b = 0 := fun e => nb ((class_nan b).1 e)
      rw [Bool.not_eq_true] at na nb
      obtain ⟨e1, e2⟩ := lines_less ha hb na nb
      rw [e1] at k9
      rw [e2] at m1
      rw [hX] at k9 m1
      have za := class_zero a
      have zb := class_zero b
      by_cases c1 : fclass a = 2
      · rw [c1] at k7
        rw [decide_eq_true (za.1 c1)] at k9 m1
        by_cases c2 : fclass b = 2
        · rw [c2] at k8
          rw [decide_eq_true (zb.1 c2)] at k9 m1
          go_enter Tryd.func7, Tryd.ntmps7
          go_wp2_with (first | (go_at_call 14; (first | (refine (awake_any _ hT).mono ?_) | (refine (awake_any _ (cell_keeps (grow_drewN _ _) hT)).mono ?_)); rintro _ _ ⟨rfl, hbel⟩) | (go_at_call 19; first | (with_reducible (refine (k1 _).mono ?_); rintro _ _ ⟨rfl, _, rfl⟩) | (with_reducible (refine (k2 _).mono ?_); rintro _ _ ⟨rfl, _, rfl⟩) | (with_reducible (refine (k5 _).mono ?_); rintro _ _ ⟨rfl, _, rfl⟩) | (with_reducible (refine (k6 _).mono ?_); rintro _ _ ⟨rfl, _, rfl⟩)) | (go_at_call 26; first | (with_reducible (refine (k3 _).mono ?_); rintro _ _ ⟨rfl, _, rfl⟩) | (with_reducible (refine (k4 _).mono ?_); rintro _ _ ⟨rfl, _, rfl⟩)) | (go_at_call 25; first | (with_reducible (refine (k7 _).mono ?_); rintro _ _ ⟨rfl, _, rfl⟩) | (with_reducible (refine (k8 _).mono ?_); rintro _ _ ⟨rfl, _, rfl⟩)) | (go_at_call 15; first | (with_reducible (refine (k9 _).mono ?_); rintro _ _ ⟨rfl, _, rfl⟩)) | (go_at_call 17; first | (with_reducible (refine (m1 _).mono ?_); rintro _ _ ⟨rfl, _, rfl⟩)))
          all_goals first | (go_ret; refine ⟨rfl, ?_⟩; (repeat (refine below_drewN ?_ _)); first | exact hbel | exact grow_from hbel | exact Below.refl _ _) | (exfalso; simp_all; done) | (exfalso; simp_all; omega)
        · rw [decide_eq_false (mt zb.2 c2)] at k9 m1
          obtain ⟨B, hvB⟩ : ∃ z0 : Int, z0 = fclass b := ⟨_, rfl⟩
          rw [← hvB] at k8 cb c2
          clear hvB
          have cb1 : (B == 0) = false := beq_eq_false_iff_ne.2 cb
          have cb2 : (B == 2) = false := beq_eq_false_iff_ne.2 c2
          go_enter Tryd.func7, Tryd.ntmps7
          go_wp2_with (first | (go_at_call 14; (first | (refine (awake_any _ hT).mono ?_) | (refine (awake_any _ (cell_keeps (grow_drewN _ _) hT)).mono ?_)); rintro _ _ ⟨rfl, hbel⟩) | (go_at_call 19; first | (with_reducible (refine (k1 _).mono ?_); rintro _ _ ⟨rfl, _, rfl⟩) | (with_reducible (refine (k2 _).mono ?_); rintro _ _ ⟨rfl, _, rfl⟩) | (with_reducible (refine (k5 _).mono ?_); rintro _ _ ⟨rfl, _, rfl⟩) | (with_reducible (refine (k6 _).mono ?_); rintro _ _ ⟨rfl, _, rfl⟩)) | (go_at_call 26; first | (with_reducible (refine (k3 _).mono ?_); rintro _ _ ⟨rfl, _, rfl⟩) | (with_reducible (refine (k4 _).mono ?_); rintro _ _ ⟨rfl, _, rfl⟩)) | (go_at_call 25; first | (with_reducible (refine (k7 _).mono ?_); rintro _ _ ⟨rfl, _, rfl⟩) | (with_reducible (refine (k8 _).mono ?_); rintro _ _ ⟨rfl, _, rfl⟩)) | (go_at_call 15; first | (with_reducible (refine (k9 _).mono ?_); rintro _ _ ⟨rfl, _, rfl⟩)) | (go_at_call 17; first | (with_reducible (refine (m1 _).mono ?_); rintro _ _ ⟨rfl, _, rfl⟩)))
          all_goals first | (go_ret; refine ⟨rfl, ?_⟩; (repeat (refine below_drewN ?_ _)); first | exact hbel | exact grow_from hbel | exact Below.refl _ _) | (exfalso; simp_all; done) | (exfalso; simp_all; omega)
      · rw [decide_eq_false (mt za.2 c1)] at k9 m1
        obtain ⟨A, hvA⟩ : ∃ z0 : Int, z0 = fclass a := ⟨_, rfl⟩
        rw [← hvA] at k7 ca c1
        clear hvA
        obtain ⟨B, hvB⟩ : ∃ z0 : Int, z0 = fclass b := ⟨_, rfl⟩
        rw [← hvB] at k8 cb
        clear hvB
        have ca1 : (A == 0) = false := beq_eq_false_iff_ne.2 ca
        have ca2 : (A == 2) = false := beq_eq_false_iff_ne.2 c1
        have cb1 : (B == 0) = false := beq_eq_false_iff_ne.2 cb
        go_enter Tryd.func7, Tryd.ntmps7
        go_wp2_with (first | (go_at_call 14; (first | (refine (awake_any _ hT).mono ?_) | (refine (awake_any _ (cell_keeps (grow_drewN _ _) hT)).mono ?_)); rintro _ _ ⟨rfl, hbel⟩) | (go_at_call 19; first | (with_reducible (refine (k1 _).mono ?_); rintro _ _ ⟨rfl, _, rfl⟩) | (with_reducible (refine (k2 _).mono ?_); rintro _ _ ⟨rfl, _, rfl⟩) | (with_reducible (refine (k5 _).mono ?_); rintro _ _ ⟨rfl, _, rfl⟩) | (with_reducible (refine (k6 _).mono ?_); rintro _ _ ⟨rfl, _, rfl⟩)) | (go_at_call 26; first | (with_reducible (refine (k3 _).mono ?_); rintro _ _ ⟨rfl, _, rfl⟩) | (with_reducible (refine (k4 _).mono ?_); rintro _ _ ⟨rfl, _, rfl⟩)) | (go_at_call 25; first | (with_reducible (refine (k7 _).mono ?_); rintro _ _ ⟨rfl, _, rfl⟩) | (with_reducible (refine (k8 _).mono ?_); rintro _ _ ⟨rfl, _, rfl⟩)) | (go_at_call 15; first | (with_reducible (refine (k9 _).mono ?_); rintro _ _ ⟨rfl, _, rfl⟩)) | (go_at_call 17; first | (with_reducible (refine (m1 _).mono ?_); rintro _ _ ⟨rfl, _, rfl⟩)))
        all_goals first | (go_ret; refine ⟨rfl, ?_⟩; (repeat (refine below_drewN ?_ _)); first | exact hbel | exact grow_from hbel | exact Below.refl _ _) | (exfalso; simp_all; done) | (exfalso; simp_all; omega)
  · have hne : ¬ ((fcan a : Nat) : Int) = ((fcan b : Nat) : Int) := fun e => by
      have := hz.2 (Int.ofNat.inj e)
      rw [hX] at this
      cases this
    rw [hX] at k1 k2
    obtain ⟨C, hvC⟩ : ∃ z0 : Int, z0 = ((fcan a : Nat) : Int) := ⟨_, rfl⟩
    rw [← hvC] at k3 hne
    clear hvC
    obtain ⟨D, hvD⟩ : ∃ z0 : Int, z0 = ((fcan b : Nat) : Int) := ⟨_, rfl⟩
    rw [← hvD] at k4 hne
    clear hvD
    clear ht hz
    by_cases na : isN a = true
    · rw [(class_nan a).2 na] at k7
      have e1 : fless a b = false := by
        rw [fless_val ha hb, na]
        rfl
      have e2 : fequal a b = false := by
        rw [fequal_val ha hb, na]
        rfl
      rw [e1] at k9
      rw [e2] at m1
      go_enter Tryd.func7, Tryd.ntmps7
      go_wp2_with (first | (go_at_call 14; (first | (refine (awake_any _ hT).mono ?_) | (refine (awake_any _ (cell_keeps (grow_drewN _ _) hT)).mono ?_)); rintro _ _ ⟨rfl, hbel⟩) | (go_at_call 19; first | (with_reducible (refine (k1 _).mono ?_); rintro _ _ ⟨rfl, _, rfl⟩) | (with_reducible (refine (k2 _).mono ?_); rintro _ _ ⟨rfl, _, rfl⟩) | (with_reducible (refine (k5 _).mono ?_); rintro _ _ ⟨rfl, _, rfl⟩) | (with_reducible (refine (k6 _).mono ?_); rintro _ _ ⟨rfl, _, rfl⟩)) | (go_at_call 26; first | (with_reducible (refine (k3 _).mono ?_); rintro _ _ ⟨rfl, _, rfl⟩) | (with_reducible (refine (k4 _).mono ?_); rintro _ _ ⟨rfl, _, rfl⟩)) | (go_at_call 25; first | (with_reducible (refine (k7 _).mono ?_); rintro _ _ ⟨rfl, _, rfl⟩) | (with_reducible (refine (k8 _).mono ?_); rintro _ _ ⟨rfl, _, rfl⟩)) | (go_at_call 15; first | (with_reducible (refine (k9 _).mono ?_); rintro _ _ ⟨rfl, _, rfl⟩)) | (go_at_call 17; first | (with_reducible (refine (m1 _).mono ?_); rintro _ _ ⟨rfl, _, rfl⟩)))
      all_goals first | (go_ret; refine ⟨rfl, ?_⟩; (repeat (refine below_drewN ?_ _)); first | exact hbel | exact grow_from hbel | exact Below.refl _ _) | (exfalso; simp_all; done) | (exfalso; simp_all; omega)
    have ca : ¬ fclass a = 0 := fun e => na ((class_nan a).1 e)
    by_cases nb : isN b = true
    · rw [(class_nan b).2 nb] at k8
      have e1 : fless a b = false := by
        rw [fless_val ha hb, nb]
        simp
      have e2 : fequal a b = false := by
        rw [fequal_val ha hb, nb]
        simp
      rw [e1] at k9
      rw [e2] at m1
      obtain ⟨A, hvA⟩ : ∃ z0 : Int, z0 = fclass a := ⟨_, rfl⟩
      rw [← hvA] at k7 ca
      clear hvA
      have ca1 : (A == 0) = false := beq_eq_false_iff_ne.2 ca
      go_enter Tryd.func7, Tryd.ntmps7
      go_wp2_with (first | (go_at_call 14; (first | (refine (awake_any _ hT).mono ?_) | (refine (awake_any _ (cell_keeps (grow_drewN _ _) hT)).mono ?_)); rintro _ _ ⟨rfl, hbel⟩) | (go_at_call 19; first | (with_reducible (refine (k1 _).mono ?_); rintro _ _ ⟨rfl, _, rfl⟩) | (with_reducible (refine (k2 _).mono ?_); rintro _ _ ⟨rfl, _, rfl⟩) | (with_reducible (refine (k5 _).mono ?_); rintro _ _ ⟨rfl, _, rfl⟩) | (with_reducible (refine (k6 _).mono ?_); rintro _ _ ⟨rfl, _, rfl⟩)) | (go_at_call 26; first | (with_reducible (refine (k3 _).mono ?_); rintro _ _ ⟨rfl, _, rfl⟩) | (with_reducible (refine (k4 _).mono ?_); rintro _ _ ⟨rfl, _, rfl⟩)) | (go_at_call 25; first | (with_reducible (refine (k7 _).mono ?_); rintro _ _ ⟨rfl, _, rfl⟩) | (with_reducible (refine (k8 _).mono ?_); rintro _ _ ⟨rfl, _, rfl⟩)) | (go_at_call 15; first | (with_reducible (refine (k9 _).mono ?_); rintro _ _ ⟨rfl, _, rfl⟩)) | (go_at_call 17; first | (with_reducible (refine (m1 _).mono ?_); rintro _ _ ⟨rfl, _, rfl⟩)))
      all_goals first | (go_ret; refine ⟨rfl, ?_⟩; (repeat (refine below_drewN ?_ _)); first | exact hbel | exact grow_from hbel | exact Below.refl _ _) | (exfalso; simp_all; done) | (exfalso; simp_all; omega)
    have cb : ¬ fclass b = 0 := fun e => nb ((class_nan b).1 e)
    rw [Bool.not_eq_true] at na nb
    obtain ⟨e1, e2⟩ := lines_less ha hb na nb
    rw [e1] at k9
    rw [e2] at m1
    rw [hX] at k9 m1
    have za := class_zero a
    have zb := class_zero b
    by_cases c1 : fclass a = 2
    · rw [c1] at k7
      rw [decide_eq_true (za.1 c1)] at k9 m1
      by_cases c2 : fclass b = 2
      · rw [c2] at k8
        rw [decide_eq_true (zb.1 c2)] at k9 m1
        go_enter Tryd.func7, Tryd.ntmps7
        go_wp2_with (first | (go_at_call 14; (first | (refine (awake_any _ hT).mono ?_) | (refine (awake_any _ (cell_keeps (grow_drewN _ _) hT)).mono ?_)); rintro _ _ ⟨rfl, hbel⟩) | (go_at_call 19; first | (with_reducible (refine (k1 _).mono ?_); rintro _ _ ⟨rfl, _, rfl⟩) | (with_reducible (refine (k2 _).mono ?_); rintro _ _ ⟨rfl, _, rfl⟩) | (with_reducible (refine (k5 _).mono ?_); rintro _ _ ⟨rfl, _, rfl⟩) | (with_reducible (refine (k6 _).mono ?_); rintro _ _ ⟨rfl, _, rfl⟩)) | (go_at_call 26; first | (with_reducible (refine (k3 _).mono ?_); rintro _ _ ⟨rfl, _, rfl⟩) | (with_reducible (refine (k4 _).mono ?_); rintro _ _ ⟨rfl, _, rfl⟩)) | (go_at_call 25; first | (with_reducible (refine (k7 _).mono ?_); rintro _ _ ⟨rfl, _, rfl⟩) | (with_reducible (refine (k8 _).mono ?_); rintro _ _ ⟨rfl, _, rfl⟩)) | (go_at_call 15; first | (with_reducible (refine (k9 _).mono ?_); rintro _ _ ⟨rfl, _, rfl⟩)) | (go_at_call 17; first | (with_reducible (refine (m1 _).mono ?_); rintro _ _ ⟨rfl, _, rfl⟩)))
        all_goals first | (go_ret; refine ⟨rfl, ?_⟩; (repeat (refine below_drewN ?_ _)); first | exact hbel | exact grow_from hbel | exact Below.refl _ _) | (exfalso; simp_all; done) | (exfalso; simp_all; omega)
      · rw [decide_eq_false (mt zb.2 c2)] at k9 m1
        obtain ⟨B, hvB⟩ : ∃ z0 : Int, z0 = fclass b := ⟨_, rfl⟩
        rw [← hvB] at k8 cb c2
        clear hvB
        have cb1 : (B == 0) = false := beq_eq_false_iff_ne.2 cb
        have cb2 : (B == 2) = false := beq_eq_false_iff_ne.2 c2
        go_enter Tryd.func7, Tryd.ntmps7
        go_wp2_with (first | (go_at_call 14; (first | (refine (awake_any _ hT).mono ?_) | (refine (awake_any _ (cell_keeps (grow_drewN _ _) hT)).mono ?_)); rintro _ _ ⟨rfl, hbel⟩) | (go_at_call 19; first | (with_reducible (refine (k1 _).mono ?_); rintro _ _ ⟨rfl, _, rfl⟩) | (with_reducible (refine (k2 _).mono ?_); rintro _ _ ⟨rfl, _, rfl⟩) | (with_reducible (refine (k5 _).mono ?_); rintro _ _ ⟨rfl, _, rfl⟩) | (with_reducible (refine (k6 _).mono ?_); rintro _ _ ⟨rfl, _, rfl⟩)) | (go_at_call 26; first | (with_reducible (refine (k3 _).mono ?_); rintro _ _ ⟨rfl, _, rfl⟩) | (with_reducible (refine (k4 _).mono ?_); rintro _ _ ⟨rfl, _, rfl⟩)) | (go_at_call 25; first | (with_reducible (refine (k7 _).mono ?_); rintro _ _ ⟨rfl, _, rfl⟩) | (with_reducible (refine (k8 _).mono ?_); rintro _ _ ⟨rfl, _, rfl⟩)) | (go_at_call 15; first | (with_reducible (refine (k9 _).mono ?_); rintro _ _ ⟨rfl, _, rfl⟩)) | (go_at_call 17; first | (with_reducible (refine (m1 _).mono ?_); rintro _ _ ⟨rfl, _, rfl⟩)))
        all_goals first | (go_ret; refine ⟨rfl, ?_⟩; (repeat (refine below_drewN ?_ _)); first | exact hbel | exact grow_from hbel | exact Below.refl _ _) | (exfalso; simp_all; done) | (exfalso; simp_all; omega)
    · rw [decide_eq_false (mt za.2 c1)] at k9 m1
      obtain ⟨A, hvA⟩ : ∃ z0 : Int, z0 = fclass a := ⟨_, rfl⟩
      rw [← hvA] at k7 ca c1
      clear hvA
      obtain ⟨B, hvB⟩ : ∃ z0 : Int, z0 = fclass b := ⟨_, rfl⟩
      rw [← hvB] at k8 cb
      clear hvB
      have ca1 : (A == 0) = false := beq_eq_false_iff_ne.2 ca
      have ca2 : (A == 2) = false := beq_eq_false_iff_ne.2 c1
      have cb1 : (B == 0) = false := beq_eq_false_iff_ne.2 cb
      go_enter Tryd.func7, Tryd.ntmps7
      go_wp2_with (first | (go_at_call 14; (first | (refine (awake_any _ hT).mono ?_) | (refine (awake_any _ (cell_keeps (grow_drewN _ _) hT)).mono ?_)); rintro _ _ ⟨rfl, hbel⟩) | (go_at_call 19; first | (with_reducible (refine (k1 _).mono ?_); rintro _ _ ⟨rfl, _, rfl⟩) | (with_reducible (refine (k2 _).mono ?_); rintro _ _ ⟨rfl, _, rfl⟩) | (with_reducible (refine (k5 _).mono ?_); rintro _ _ ⟨rfl, _, rfl⟩) | (with_reducible (refine (k6 _).mono ?_); rintro _ _ ⟨rfl, _, rfl⟩)) | (go_at_call 26; first | (with_reducible (refine (k3 _).mono ?_); rintro _ _ ⟨rfl, _, rfl⟩) | (with_reducible (refine (k4 _).mono ?_); rintro _ _ ⟨rfl, _, rfl⟩)) | (go_at_call 25; first | (with_reducible (refine (k7 _).mono ?_); rintro _ _ ⟨rfl, _, rfl⟩) | (with_reducible (refine (k8 _).mono ?_); rintro _ _ ⟨rfl, _, rfl⟩)) | (go_at_call 15; first | (with_reducible (refine (k9 _).mono ?_); rintro _ _ ⟨rfl, _, rfl⟩)) | (go_at_call 17; first | (with_reducible (refine (m1 _).mono ?_); rintro _ _ ⟨rfl, _, rfl⟩)))
      all_goals first | (go_ret; refine ⟨rfl, ?_⟩; (repeat (refine below_drewN ?_ _)); first | exact hbel | exact grow_from hbel | exact Below.refl _ _) | (exfalso; simp_all; done) | (exfalso; simp_all; omega)

-- LIFT
set_option maxRecDepth 100000 in
theorem contract (H : Type) (enc : TypeId × Value → H) (W : World) (base : Nat) (args : Array Value) (ds gs : List (DataW H)) (before : List MemPlace)
    (hval : ∀ (j : Nat) t v, Tryd.f7.params[j]? = some t → args[j]? = some v → Value.okWide Tryd.prog W .any base t v)
    (hW : DataW.Whole enc Tryd.prog Tryd.f7.params.toList Rows.numLinesSpec.vars false W args.toList ds gs before) (hL : laidMetH Tryd.prog Rows.numLinesRow.laid W) :
    Calls Tryd.prog 7 args W fun e W' => ∃ v, e = .returned v ∧ Rows.numLinesSpec.post enc Tryd.prog Tryd.f7 false true false false W args v W' := by
  have hT := cell_of (show laidMetH Tryd.prog laidOf W from hL)
  clear hL
  have hts : Tryd.f7.params.toList.all (fun t => Tryd.prog.readableRec t && decide (t < Tryd.prog.types.size)) = true := by kernel_rfl
  have hW' := hW
  obtain ⟨p, q, hA0, hV, rfl, hfz, hnd⟩ := hW
  have hA : DataW.TrodAll enc Tryd.prog W 0 (fun _ => true) true Tryd.f7.params.toList args.toList ds p := hA0
  rw [Tryd.params7] at hA hval
  obtain ⟨v0, vs0, d0, ds0, p0, q0, hargs, rfl, rfl, h0, r0⟩ := trodAll_cons hA
  obtain ⟨v1, vs1, d1, ds1, p1, q1, rfl, rfl, rfl, h1, r1⟩ := trodAll_cons r0
  obtain ⟨v2, vs2, d2, ds2, p2, q2, rfl, rfl, rfl, h2, r2⟩ := trodAll_cons r1
  obtain ⟨rfl, rfl, rfl⟩ := trodAll_nil r2
  obtain rfl : args = #[v0, v1, v2] := by cases args; simp_all
  obtain ⟨rfl, rfl⟩ := trodVars_none hV
  have hfn : Rows.numLinesSpec.fn H ([d0, d1, d2] ++ []) = { results := [.lit (.bool true)], args := [d0, d1, d2] } := rfl
  have hfin := fun W' (hbel : Below W.heap.size W W') => law_post (f := Tryd.f7) (s := Rows.numLinesSpec) 4 Tryd.laid hts rfl Tryd.underlying4 rfl hfn hW' hbel
  clear hA0 hts hfn
  obtain ⟨a0, rfl, rfl, rfl, w0⟩ := open_int Tryd.underlying22 (hval 0 22 v0 rfl rfl) h0
  obtain ⟨a1, rfl, rfl, rfl, w1⟩ := open_int Tryd.underlying22 (hval 1 22 v1 rfl rfl) h1
  obtain ⟨a2, rfl, rfl, rfl, w2⟩ := open_int Tryd.underlying22 (hval 2 22 v2 rfl rfl) h2
  have x0 : 0 ≤ a0 ∧ a0 ≤ 18446744073709551615 := by simpa [Lit.wf, IntKind.min, IntKind.max, IntKind.signed, IntKind.bits] using w0
  obtain ⟨n0, rfl⟩ := Int.eq_ofNat_of_zero_le x0.1
  have x1 : 0 ≤ a1 ∧ a1 ≤ 18446744073709551615 := by simpa [Lit.wf, IntKind.min, IntKind.max, IntKind.signed, IntKind.bits] using w1
  obtain ⟨n1, rfl⟩ := Int.eq_ofNat_of_zero_le x1.1
  have x2 : 0 ≤ a2 ∧ a2 ≤ 18446744073709551615 := by simpa [Lit.wf, IntKind.min, IntKind.max, IntKind.signed, IntKind.bits] using w2
  obtain ⟨n2, rfl⟩ := Int.eq_ofNat_of_zero_le x2.1
  exact (walk n0 n1 n2 W hT (by unfold signB; omega) (by unfold signB; omega) (by unfold signB; omega)).mono fun e W' ⟨he, hg⟩ => ⟨_, he, hfin W' hg⟩

theorem reads (os : Os) {H : Type} (enc : TypeId × Value → H) : ∃ places, DataW.whole enc Tryd.prog ((laidWorld os).forCall (fun _ _ => 0) ⟨#[], #[.int .u64 0, .int .u64 0, .int .u64 0], []⟩).memory Tryd.f7.params.toList Rows.numLinesSpec.vars false #[.int .u64 0, .int .u64 0, .int .u64 0].toList 8 = some ([.lit (.int .u64 0), .lit (.int .u64 0), .lit (.int .u64 0)], [], places) :=
  ⟨[], by kernel_rfl⟩
theorem laid_met (os : Os) : laidMet Tryd.prog Rows.numLinesRow.laid ((laidWorld os).forCall (fun _ _ => 0) ⟨#[], #[.int .u64 0, .int .u64 0, .int .u64 0], []⟩).memory := laid_here os #[.int .u64 0, .int .u64 0, .int .u64 0]

set_option maxRecDepth 100000 in
theorem lifted (os : Os) (started : os.Started) (H : Type) (enc : TypeId × Value → H) (F : Stop.Interp) :
    ReturnsInHanded {} Tryd.checked os 7 .any ((OpenSpec.ofChange Rows.numLinesSpec).preRow enc Tryd.prog Tryd.f7 Rows.numLinesRow.domain false Rows.numLinesRow.laid) (((OpenSpec.ofChange Rows.numLinesSpec).at F).post enc Tryd.prog Tryd.f7 false true false false) := by
  obtain ⟨places, hx⟩ := reads os enc
  refine returnsInHanded_of_row (C := Tryd.checked) (s := OpenSpec.ofChange Rows.numLinesSpec) Tryd.own started (by kernel_rfl) Tryd.func7
    (witness_row_atRef (enc := enc) (C := Tryd.checked) false (laidWorld os) #[.int .u64 0, .int .u64 0, .int .u64 0] rfl (by kernel_rfl) (by kernel_rfl) (by kernel_rfl)
      (OpenSpec.preRow_of_cond 8 hx (by kernel_rfl) (fun k hk => by cases hk) (by kernel_rfl) (laid_met os))) ?_
  intro W base args ds gs before hval hW _ _ _ hL _ _
  exact contract H enc W base args ds gs before hval hW hL

theorem said : Rows.NumLinesSaid :=
  OpenClaim.holds_of_cond 7 Tryd.f7 rfl rfl rfl rfl rfl rfl rfl ⟨rfl, rfl, rfl, rfl, rfl⟩ rfl rfl rfl rfl rfl (by kernel_rfl) Tryd.func7 (by kernel_rfl)
    (of_decide_eq_true (by kernel_rfl)) (by unfold Func.isWrapper; first | (rw [if_pos (by decide +kernel)]; kernel_rfl) | (rw [if_neg (by decide +kernel)]; exact ⟨rfl, rfl⟩))
    (fun os started H enc _ F => by rw [OpenClaim.pre_eq_preRow]; exact lifted os started H enc F)

theorem plain (f : FuncId) (fn : Func) (hf : Tryd.pinned.checked.prog.funcNamed "gaffer/gafferlaw01.NumLines" = some f) (hfn : Tryd.pinned.checked.prog.funcs[f]? = some fn) :
    true = Tryd.pinned.checked.prog.looks [] ∧ ∀ (j : Nat) t, fn.params[j]? = some t → Tryd.pinned.checked.prog.wantsStandIn t = false := by
  obtain rfl : f = 7 := Option.some.inj ((show Tryd.prog.funcNamed "gaffer/gafferlaw01.NumLines" = some 7 by kernel_rfl).symm.trans hf) |>.symm
  obtain rfl : fn = Tryd.f7 := (Option.some.inj (Tryd.func7.symm.trans hfn)).symm
  refine ⟨by kernel_rfl, fun j t ht => ?_⟩
  rw [Tryd.params7] at ht
  have hm := Array.mem_of_getElem? ht
  simp only [List.mem_toArray, List.mem_cons, List.not_mem_nil, or_false] at hm
  rcases hm with rfl | rfl | rfl
  · exact (show Tryd.prog.wantsStandIn 22 = false by kernel_rfl)
  · exact (show Tryd.prog.wantsStandIn 22 = false by kernel_rfl)
  · exact (show Tryd.prog.wantsStandIn 22 = false by kernel_rfl)

theorem proved : Rows.NumLinesCardSaid :=
  Claim7.holds_tied_plain_at .later [] _ _ _ _ said (fun _ h => by cases h) (by kernel_rfl) (fun _ h => by cases h) numLines_row_tie rfl ⟨rfl, rfl⟩ (by kernel_rfl) rfl plain (by kernel_rfl)

end Go.Proofs.YthbdgdapchplgaaDoor.numLines
