/- NumRises: sums and products keep the order, as a row and as a card. No condition. -/
import Derived.Test.YthbdgdapchplgaaDoorNumRow
set_option maxRecDepth 100000
namespace Go.Proofs.YthbdgdapchplgaaDoor.numRises
open Go.RowKit Go.WideShapes Go.ChangeShapes Go.ChangeAt
open Go.ChangeMaps (open_string shut_string)

set_option maxHeartbeats 2000000 in
set_option maxRecDepth 100000 in
theorem walk (a : Nat) (b : Nat) (c : Nat) (w : World) (hT : w.cell? TA = some (.int .u8 50)) (ha : a < 2 * signB) (hb : b < 2 * signB) (hc : c < 2 * signB) :
    Calls Tryd.prog 6 #[.int .u64 (a : Nat), .int .u64 (b : Nat), .int .u64 (c : Nat)] w fun e w' => e = .returned (.bool true) ∧ Below w.heap.size w w' := by
  have k1 := class_any ha
  have k2 := class_any hb
  by_cases na : isN a = true
  · rw [(class_nan a).2 na] at k1
    go_enter Tryd.func6, Tryd.ntmps6
    go_wp2_with (first | (go_at_call 14; (first | (refine (awake_any _ hT).mono ?_) | (refine (awake_any _ (cell_keeps (grow_drewN _ _) hT)).mono ?_)); rintro _ _ ⟨rfl, hbel⟩) | (go_at_call 25; first | (with_reducible (refine (k1 _).mono ?_); rintro _ _ ⟨rfl, _, rfl⟩)))
    all_goals first | (go_ret; refine ⟨rfl, ?_⟩; (repeat (refine below_drewN ?_ _)); first | exact hbel | exact grow_from hbel | exact Below.refl _ _) | (exfalso; simp_all; done) | (exfalso; simp_all; omega)
  have ca : ¬ fclass a = 0 := fun e => na ((class_nan a).1 e)
  obtain ⟨A, hvA⟩ : ∃ z0 : Int, z0 = fclass a := ⟨_, rfl⟩
  rw [← hvA] at k1 ca
  clear hvA
  have ca1 : (A == 0) = false := beq_eq_false_iff_ne.2 ca
  by_cases nb : isN b = true
  · rw [(class_nan b).2 nb] at k2
    go_enter Tryd.func6, Tryd.ntmps6
    go_wp2_with (first | (go_at_call 14; (first | (refine (awake_any _ hT).mono ?_) | (refine (awake_any _ (cell_keeps (grow_drewN _ _) hT)).mono ?_)); rintro _ _ ⟨rfl, hbel⟩) | (go_at_call 25; first | (with_reducible (refine (k1 _).mono ?_); rintro _ _ ⟨rfl, _, rfl⟩) | (with_reducible (refine (k2 _).mono ?_); rintro _ _ ⟨rfl, _, rfl⟩)))
    all_goals first | (go_ret; refine ⟨rfl, ?_⟩; (repeat (refine below_drewN ?_ _)); first | exact hbel | exact grow_from hbel | exact Below.refl _ _) | (exfalso; simp_all; done) | (exfalso; simp_all; omega)
  have cb : ¬ fclass b = 0 := fun e => nb ((class_nan b).1 e)
  obtain ⟨B, hvB⟩ : ∃ z0 : Int, z0 = fclass b := ⟨_, rfl⟩
  rw [← hvB] at k2 cb
  clear hvB
  have cb1 : (B == 0) = false := beq_eq_false_iff_ne.2 cb
  rw [Bool.not_eq_true] at na nb
  have k3 := order_any ha hb
  by_cases hO0 : (0 : Int) < forder a b
  · have hpq : forder b a ≤ 0 := by
      rw [order_turn (a := a) (b := b)]
      omega
    obtain ⟨O0, hvO0⟩ : ∃ z0 : Int, z0 = forder a b := ⟨_, rfl⟩
    rw [← hvO0] at k3 hO0
    clear hvO0
    have k4 := add_any hb hc
    have k5 := add_any ha hc
    have k6 := order_any (fadd_lt b c).1 (fadd_lt a c).1
    have k7 := mul_any hb hc
    have k8 := mul_any ha hc
    have k9 := class_any (fmul_lt b c).1
    have m1 := class_any (fmul_lt a c).1
    have m2 := order_any (fmul_lt b c).1 (fmul_lt a c).1
    by_cases hx : fadd b c = nanB
    · rw [hx] at k4
      rw [show ((nanB : Nat) : Int) = 9221120237041090561 from rfl] at k4
      clear k6
      by_cases z1 : fclass (fmul b c) = 2
      · rw [z1] at k9
        by_cases hs : signB ≤ c
        · have h1 := shr_one hc hs
          go_enter Tryd.func6, Tryd.ntmps6
          go_wp2_with (first | (go_at_call 14; (first | (refine (awake_any _ hT).mono ?_) | (refine (awake_any _ (cell_keeps (grow_drewN _ _) hT)).mono ?_)); rintro _ _ ⟨rfl, hbel⟩) | (go_at_call 25; first | (with_reducible (refine (k1 _).mono ?_); rintro _ _ ⟨rfl, _, rfl⟩) | (with_reducible (refine (k2 _).mono ?_); rintro _ _ ⟨rfl, _, rfl⟩) | (with_reducible (refine (k9 _).mono ?_); rintro _ _ ⟨rfl, _, rfl⟩) | (with_reducible (refine (m1 _).mono ?_); rintro _ _ ⟨rfl, _, rfl⟩)) | (go_at_call 19; first | (with_reducible (refine (k3 _).mono ?_); rintro _ _ ⟨rfl, _, rfl⟩)) | (go_at_call 22; first | (with_reducible (refine (k4 _).mono ?_); rintro _ _ ⟨rfl, _, rfl⟩) | (with_reducible (refine (k5 _).mono ?_); rintro _ _ ⟨rfl, _, rfl⟩)) | (go_at_call 23; first | (with_reducible (refine (k7 _).mono ?_); rintro _ _ ⟨rfl, _, rfl⟩) | (with_reducible (refine (k8 _).mono ?_); rintro _ _ ⟨rfl, _, rfl⟩)))
          all_goals first | (go_ret; refine ⟨rfl, ?_⟩; (repeat (refine below_drewN ?_ _)); first | exact hbel | exact grow_from hbel | exact Below.refl _ _) | (exfalso; simp_all; done) | (exfalso; simp_all; omega)
        have h1 := shr_none hs
        by_cases hX : fmul b c = nanB
        · exfalso
          rw [hX] at z1
          exact absurd z1 (by decide)
        by_cases hY : fmul a c = nanB
        · rw [hY] at k8 m1
          have z2 : fclass nanB = 0 := by decide
          rw [z2] at m1
          rw [show ((nanB : Nat) : Int) = 9221120237041090561 from rfl] at k8 m1
          have hX' : ¬ ((fmul b c : Nat) : Int) = 9221120237041090561 := fun e => hX (by unfold nanB; omega)
          go_enter Tryd.func6, Tryd.ntmps6
          go_wp2_with (first | (go_at_call 14; (first | (refine (awake_any _ hT).mono ?_) | (refine (awake_any _ (cell_keeps (grow_drewN _ _) hT)).mono ?_)); rintro _ _ ⟨rfl, hbel⟩) | (go_at_call 25; first | (with_reducible (refine (k1 _).mono ?_); rintro _ _ ⟨rfl, _, rfl⟩) | (with_reducible (refine (k2 _).mono ?_); rintro _ _ ⟨rfl, _, rfl⟩) | (with_reducible (refine (k9 _).mono ?_); rintro _ _ ⟨rfl, _, rfl⟩) | (with_reducible (refine (m1 _).mono ?_); rintro _ _ ⟨rfl, _, rfl⟩)) | (go_at_call 19; first | (with_reducible (refine (k3 _).mono ?_); rintro _ _ ⟨rfl, _, rfl⟩)) | (go_at_call 22; first | (with_reducible (refine (k4 _).mono ?_); rintro _ _ ⟨rfl, _, rfl⟩) | (with_reducible (refine (k5 _).mono ?_); rintro _ _ ⟨rfl, _, rfl⟩)) | (go_at_call 23; first | (with_reducible (refine (k7 _).mono ?_); rintro _ _ ⟨rfl, _, rfl⟩) | (with_reducible (refine (k8 _).mono ?_); rintro _ _ ⟨rfl, _, rfl⟩)))
          all_goals first | (go_ret; refine ⟨rfl, ?_⟩; (repeat (refine below_drewN ?_ _)); first | exact hbel | exact grow_from hbel | exact Below.refl _ _) | (exfalso; simp_all; done) | (exfalso; simp_all; omega)
        have hX' : ¬ ((fmul b c : Nat) : Int) = 9221120237041090561 := fun e => hX (by unfold nanB; omega)
        have hY' : ¬ ((fmul a c : Nat) : Int) = 9221120237041090561 := fun e => hY (by unfold nanB; omega)
        by_cases z2 : fclass (fmul a c) = 2
        · rw [z2] at m1
          go_enter Tryd.func6, Tryd.ntmps6
          go_wp2_with (first | (go_at_call 14; (first | (refine (awake_any _ hT).mono ?_) | (refine (awake_any _ (cell_keeps (grow_drewN _ _) hT)).mono ?_)); rintro _ _ ⟨rfl, hbel⟩) | (go_at_call 25; first | (with_reducible (refine (k1 _).mono ?_); rintro _ _ ⟨rfl, _, rfl⟩) | (with_reducible (refine (k2 _).mono ?_); rintro _ _ ⟨rfl, _, rfl⟩) | (with_reducible (refine (k9 _).mono ?_); rintro _ _ ⟨rfl, _, rfl⟩) | (with_reducible (refine (m1 _).mono ?_); rintro _ _ ⟨rfl, _, rfl⟩)) | (go_at_call 19; first | (with_reducible (refine (k3 _).mono ?_); rintro _ _ ⟨rfl, _, rfl⟩)) | (go_at_call 22; first | (with_reducible (refine (k4 _).mono ?_); rintro _ _ ⟨rfl, _, rfl⟩) | (with_reducible (refine (k5 _).mono ?_); rintro _ _ ⟨rfl, _, rfl⟩)) | (go_at_call 23; first | (with_reducible (refine (k7 _).mono ?_); rintro _ _ ⟨rfl, _, rfl⟩) | (with_reducible (refine (k8 _).mono ?_); rintro _ _ ⟨rfl, _, rfl⟩)))
          all_goals first | (go_ret; refine ⟨rfl, ?_⟩; (repeat (refine below_drewN ?_ _)); first | exact hbel | exact grow_from hbel | exact Below.refl _ _) | (exfalso; simp_all; done) | (exfalso; simp_all; omega)
        have ho := rises_mul hb ha hc nb na hpq (by omega) hX hY (fun e => z2 ((class_zero _).2 e.2))
        obtain ⟨Q, hvQ⟩ : ∃ z0 : Int, z0 = fclass (fmul a c) := ⟨_, rfl⟩
        rw [← hvQ] at m1 z2
        clear hvQ
        obtain ⟨O, hvO⟩ : ∃ z0 : Int, z0 = forder (fmul b c) (fmul a c) := ⟨_, rfl⟩
        rw [← hvO] at m2 ho
        clear hvO
        go_enter Tryd.func6, Tryd.ntmps6
        go_wp2_with (first | (go_at_call 14; (first | (refine (awake_any _ hT).mono ?_) | (refine (awake_any _ (cell_keeps (grow_drewN _ _) hT)).mono ?_)); rintro _ _ ⟨rfl, hbel⟩) | (go_at_call 25; first | (with_reducible (refine (k1 _).mono ?_); rintro _ _ ⟨rfl, _, rfl⟩) | (with_reducible (refine (k2 _).mono ?_); rintro _ _ ⟨rfl, _, rfl⟩) | (with_reducible (refine (k9 _).mono ?_); rintro _ _ ⟨rfl, _, rfl⟩) | (with_reducible (refine (m1 _).mono ?_); rintro _ _ ⟨rfl, _, rfl⟩)) | (go_at_call 19; first | (with_reducible (refine (k3 _).mono ?_); rintro _ _ ⟨rfl, _, rfl⟩) | (with_reducible (refine (m2 _).mono ?_); rintro _ _ ⟨rfl, _, rfl⟩)) | (go_at_call 22; first | (with_reducible (refine (k4 _).mono ?_); rintro _ _ ⟨rfl, _, rfl⟩) | (with_reducible (refine (k5 _).mono ?_); rintro _ _ ⟨rfl, _, rfl⟩)) | (go_at_call 23; first | (with_reducible (refine (k7 _).mono ?_); rintro _ _ ⟨rfl, _, rfl⟩) | (with_reducible (refine (k8 _).mono ?_); rintro _ _ ⟨rfl, _, rfl⟩)))
        all_goals first | (go_ret; refine ⟨rfl, ?_⟩; (repeat (refine below_drewN ?_ _)); first | exact hbel | exact grow_from hbel | exact Below.refl _ _) | (exfalso; simp_all; done) | (exfalso; simp_all; omega)
      · by_cases hs : signB ≤ c
        · have h1 := shr_one hc hs
          obtain ⟨Z, hvZ⟩ : ∃ z0 : Int, z0 = fclass (fmul b c) := ⟨_, rfl⟩
          rw [← hvZ] at k9 z1
          clear hvZ
          have z2b : (Z == 2) = false := beq_eq_false_iff_ne.2 z1
          go_enter Tryd.func6, Tryd.ntmps6
          go_wp2_with (first | (go_at_call 14; (first | (refine (awake_any _ hT).mono ?_) | (refine (awake_any _ (cell_keeps (grow_drewN _ _) hT)).mono ?_)); rintro _ _ ⟨rfl, hbel⟩) | (go_at_call 25; first | (with_reducible (refine (k1 _).mono ?_); rintro _ _ ⟨rfl, _, rfl⟩) | (with_reducible (refine (k2 _).mono ?_); rintro _ _ ⟨rfl, _, rfl⟩) | (with_reducible (refine (k9 _).mono ?_); rintro _ _ ⟨rfl, _, rfl⟩) | (with_reducible (refine (m1 _).mono ?_); rintro _ _ ⟨rfl, _, rfl⟩)) | (go_at_call 19; first | (with_reducible (refine (k3 _).mono ?_); rintro _ _ ⟨rfl, _, rfl⟩)) | (go_at_call 22; first | (with_reducible (refine (k4 _).mono ?_); rintro _ _ ⟨rfl, _, rfl⟩) | (with_reducible (refine (k5 _).mono ?_); rintro _ _ ⟨rfl, _, rfl⟩)) | (go_at_call 23; first | (with_reducible (refine (k7 _).mono ?_); rintro _ _ ⟨rfl, _, rfl⟩) | (with_reducible (refine (k8 _).mono ?_); rintro _ _ ⟨rfl, _, rfl⟩)))
          all_goals first | (go_ret; refine ⟨rfl, ?_⟩; (repeat (refine below_drewN ?_ _)); first | exact hbel | exact grow_from hbel | exact Below.refl _ _) | (exfalso; simp_all; done) | (exfalso; simp_all; omega)
        have h1 := shr_none hs
        by_cases hX : fmul b c = nanB
        · rw [hX] at k7 k9 z1
          obtain ⟨Z, hvZ⟩ : ∃ z0 : Int, z0 = fclass nanB := ⟨_, rfl⟩
          rw [← hvZ] at k9 z1
          clear hvZ
          rw [show ((nanB : Nat) : Int) = 9221120237041090561 from rfl] at k7 k9
          go_enter Tryd.func6, Tryd.ntmps6
          go_wp2_with (first | (go_at_call 14; (first | (refine (awake_any _ hT).mono ?_) | (refine (awake_any _ (cell_keeps (grow_drewN _ _) hT)).mono ?_)); rintro _ _ ⟨rfl, hbel⟩) | (go_at_call 25; first | (with_reducible (refine (k1 _).mono ?_); rintro _ _ ⟨rfl, _, rfl⟩) | (with_reducible (refine (k2 _).mono ?_); rintro _ _ ⟨rfl, _, rfl⟩) | (with_reducible (refine (k9 _).mono ?_); rintro _ _ ⟨rfl, _, rfl⟩) | (with_reducible (refine (m1 _).mono ?_); rintro _ _ ⟨rfl, _, rfl⟩)) | (go_at_call 19; first | (with_reducible (refine (k3 _).mono ?_); rintro _ _ ⟨rfl, _, rfl⟩)) | (go_at_call 22; first | (with_reducible (refine (k4 _).mono ?_); rintro _ _ ⟨rfl, _, rfl⟩) | (with_reducible (refine (k5 _).mono ?_); rintro _ _ ⟨rfl, _, rfl⟩)) | (go_at_call 23; first | (with_reducible (refine (k7 _).mono ?_); rintro _ _ ⟨rfl, _, rfl⟩) | (with_reducible (refine (k8 _).mono ?_); rintro _ _ ⟨rfl, _, rfl⟩)))
          all_goals first | (go_ret; refine ⟨rfl, ?_⟩; (repeat (refine below_drewN ?_ _)); first | exact hbel | exact grow_from hbel | exact Below.refl _ _) | (exfalso; simp_all; done) | (exfalso; simp_all; omega)
        by_cases hY : fmul a c = nanB
        · rw [hY] at k8 m1
          rw [show ((nanB : Nat) : Int) = 9221120237041090561 from rfl] at k8 m1
          have hX' : ¬ ((fmul b c : Nat) : Int) = 9221120237041090561 := fun e => hX (by unfold nanB; omega)
          obtain ⟨Z, hvZ⟩ : ∃ z0 : Int, z0 = fclass (fmul b c) := ⟨_, rfl⟩
          rw [← hvZ] at k9 z1
          clear hvZ
          have z2b : (Z == 2) = false := beq_eq_false_iff_ne.2 z1
          go_enter Tryd.func6, Tryd.ntmps6
          go_wp2_with (first | (go_at_call 14; (first | (refine (awake_any _ hT).mono ?_) | (refine (awake_any _ (cell_keeps (grow_drewN _ _) hT)).mono ?_)); rintro _ _ ⟨rfl, hbel⟩) | (go_at_call 25; first | (with_reducible (refine (k1 _).mono ?_); rintro _ _ ⟨rfl, _, rfl⟩) | (with_reducible (refine (k2 _).mono ?_); rintro _ _ ⟨rfl, _, rfl⟩) | (with_reducible (refine (k9 _).mono ?_); rintro _ _ ⟨rfl, _, rfl⟩) | (with_reducible (refine (m1 _).mono ?_); rintro _ _ ⟨rfl, _, rfl⟩)) | (go_at_call 19; first | (with_reducible (refine (k3 _).mono ?_); rintro _ _ ⟨rfl, _, rfl⟩)) | (go_at_call 22; first | (with_reducible (refine (k4 _).mono ?_); rintro _ _ ⟨rfl, _, rfl⟩) | (with_reducible (refine (k5 _).mono ?_); rintro _ _ ⟨rfl, _, rfl⟩)) | (go_at_call 23; first | (with_reducible (refine (k7 _).mono ?_); rintro _ _ ⟨rfl, _, rfl⟩) | (with_reducible (refine (k8 _).mono ?_); rintro _ _ ⟨rfl, _, rfl⟩)))
          all_goals first | (go_ret; refine ⟨rfl, ?_⟩; (repeat (refine below_drewN ?_ _)); first | exact hbel | exact grow_from hbel | exact Below.refl _ _) | (exfalso; simp_all; done) | (exfalso; simp_all; omega)
        have hX' : ¬ ((fmul b c : Nat) : Int) = 9221120237041090561 := fun e => hX (by unfold nanB; omega)
        have hY' : ¬ ((fmul a c : Nat) : Int) = 9221120237041090561 := fun e => hY (by unfold nanB; omega)
        have ho := rises_mul hb ha hc nb na hpq (by omega) hX hY (fun e => z1 ((class_zero _).2 e.1))
        obtain ⟨O, hvO⟩ : ∃ z0 : Int, z0 = forder (fmul b c) (fmul a c) := ⟨_, rfl⟩
        rw [← hvO] at m2 ho
        clear hvO
        obtain ⟨Z, hvZ⟩ : ∃ z0 : Int, z0 = fclass (fmul b c) := ⟨_, rfl⟩
        rw [← hvZ] at k9 z1
        clear hvZ
        have z2b : (Z == 2) = false := beq_eq_false_iff_ne.2 z1
        go_enter Tryd.func6, Tryd.ntmps6
        go_wp2_with (first | (go_at_call 14; (first | (refine (awake_any _ hT).mono ?_) | (refine (awake_any _ (cell_keeps (grow_drewN _ _) hT)).mono ?_)); rintro _ _ ⟨rfl, hbel⟩) | (go_at_call 25; first | (with_reducible (refine (k1 _).mono ?_); rintro _ _ ⟨rfl, _, rfl⟩) | (with_reducible (refine (k2 _).mono ?_); rintro _ _ ⟨rfl, _, rfl⟩) | (with_reducible (refine (k9 _).mono ?_); rintro _ _ ⟨rfl, _, rfl⟩) | (with_reducible (refine (m1 _).mono ?_); rintro _ _ ⟨rfl, _, rfl⟩)) | (go_at_call 19; first | (with_reducible (refine (k3 _).mono ?_); rintro _ _ ⟨rfl, _, rfl⟩) | (with_reducible (refine (m2 _).mono ?_); rintro _ _ ⟨rfl, _, rfl⟩)) | (go_at_call 22; first | (with_reducible (refine (k4 _).mono ?_); rintro _ _ ⟨rfl, _, rfl⟩) | (with_reducible (refine (k5 _).mono ?_); rintro _ _ ⟨rfl, _, rfl⟩)) | (go_at_call 23; first | (with_reducible (refine (k7 _).mono ?_); rintro _ _ ⟨rfl, _, rfl⟩) | (with_reducible (refine (k8 _).mono ?_); rintro _ _ ⟨rfl, _, rfl⟩)))
        all_goals first | (go_ret; refine ⟨rfl, ?_⟩; (repeat (refine below_drewN ?_ _)); first | exact hbel | exact grow_from hbel | exact Below.refl _ _) | (exfalso; simp_all; done) | (exfalso; simp_all; omega)
    by_cases hy : fadd a c = nanB
    · have hx' : ¬ ((fadd b c : Nat) : Int) = 9221120237041090561 := fun e => hx (by unfold nanB; omega)
      rw [hy] at k5
      rw [show ((nanB : Nat) : Int) = 9221120237041090561 from rfl] at k5
      clear k6
      obtain ⟨S, hvS⟩ : ∃ z0 : Int, z0 = ((fadd b c : Nat) : Int) := ⟨_, rfl⟩
      rw [← hvS] at k4 hx'
      clear hvS
      by_cases z1 : fclass (fmul b c) = 2
      · rw [z1] at k9
        by_cases hs : signB ≤ c
        · have h1 := shr_one hc hs
          go_enter Tryd.func6, Tryd.ntmps6
          go_wp2_with (first | (go_at_call 14; (first | (refine (awake_any _ hT).mono ?_) | (refine (awake_any _ (cell_keeps (grow_drewN _ _) hT)).mono ?_)); rintro _ _ ⟨rfl, hbel⟩) | (go_at_call 25; first | (with_reducible (refine (k1 _).mono ?_); rintro _ _ ⟨rfl, _, rfl⟩) | (with_reducible (refine (k2 _).mono ?_); rintro _ _ ⟨rfl, _, rfl⟩) | (with_reducible (refine (k9 _).mono ?_); rintro _ _ ⟨rfl, _, rfl⟩) | (with_reducible (refine (m1 _).mono ?_); rintro _ _ ⟨rfl, _, rfl⟩)) | (go_at_call 19; first | (with_reducible (refine (k3 _).mono ?_); rintro _ _ ⟨rfl, _, rfl⟩)) | (go_at_call 22; first | (with_reducible (refine (k4 _).mono ?_); rintro _ _ ⟨rfl, _, rfl⟩) | (with_reducible (refine (k5 _).mono ?_); rintro _ _ ⟨rfl, _, rfl⟩)) | (go_at_call 23; first | (with_reducible (refine (k7 _).mono ?_); rintro _ _ ⟨rfl, _, rfl⟩) | (with_reducible (refine (k8 _).mono ?_); rintro _ _ ⟨rfl, _, rfl⟩)))
          all_goals first | (go_ret; refine ⟨rfl, ?_⟩; (repeat (refine below_drewN ?_ _)); first | exact hbel | exact grow_from hbel | exact Below.refl _ _) | (exfalso; simp_all; done) | (exfalso; simp_all; omega)
        have h1 := shr_none hs
        by_cases hX : fmul b c = nanB
        · exfalso
          rw [hX] at z1
          exact absurd z1 (by decide)
        by_cases hY : fmul a c = nanB
        · rw [hY] at k8 m1
          have z2 : fclass nanB = 0 := by decide
          rw [z2] at m1
          rw [show ((nanB : Nat) : Int) = 9221120237041090561 from rfl] at k8 m1
          have hX' : ¬ ((fmul b c : Nat) : Int) = 9221120237041090561 := fun e => hX (by unfold nanB; omega)
          go_enter Tryd.func6, Tryd.ntmps6
          go_wp2_with (first | (go_at_call 14; (first | (refine (awake_any _ hT).mono ?_) | (refine (awake_any _ (cell_keeps (grow_drewN _ _) hT)).mono ?_)); rintro _ _ ⟨rfl, hbel⟩) | (go_at_call 25; first | (with_reducible (refine (k1 _).mono ?_); rintro _ _ ⟨rfl, _, rfl⟩) | (with_reducible (refine (k2 _).mono ?_); rintro _ _ ⟨rfl, _, rfl⟩) | (with_reducible (refine (k9 _).mono ?_); rintro _ _ ⟨rfl, _, rfl⟩) | (with_reducible (refine (m1 _).mono ?_); rintro _ _ ⟨rfl, _, rfl⟩)) | (go_at_call 19; first | (with_reducible (refine (k3 _).mono ?_); rintro _ _ ⟨rfl, _, rfl⟩)) | (go_at_call 22; first | (with_reducible (refine (k4 _).mono ?_); rintro _ _ ⟨rfl, _, rfl⟩) | (with_reducible (refine (k5 _).mono ?_); rintro _ _ ⟨rfl, _, rfl⟩)) | (go_at_call 23; first | (with_reducible (refine (k7 _).mono ?_); rintro _ _ ⟨rfl, _, rfl⟩) | (with_reducible (refine (k8 _).mono ?_); rintro _ _ ⟨rfl, _, rfl⟩)))
          all_goals first | (go_ret; refine ⟨rfl, ?_⟩; (repeat (refine below_drewN ?_ _)); first | exact hbel | exact grow_from hbel | exact Below.refl _ _) | (exfalso; simp_all; done) | (exfalso; simp_all; omega)
        have hX' : ¬ ((fmul b c : Nat) : Int) = 9221120237041090561 := fun e => hX (by unfold nanB; omega)
        have hY' : ¬ ((fmul a c : Nat) : Int) = 9221120237041090561 := fun e => hY (by unfold nanB; omega)
        by_cases z2 : fclass (fmul a c) = 2
        · rw [z2] at m1
          go_enter Tryd.func6, Tryd.ntmps6
          go_wp2_with (first | (go_at_call 14; (first | (refine (awake_any _ hT).mono ?_) | (refine (awake_any _ (cell_keeps (grow_drewN _ _) hT)).mono ?_)); rintro _ _ ⟨rfl, hbel⟩) | (go_at_call 25; first | (with_reducible (refine (k1 _).mono ?_); rintro _ _ ⟨rfl, _, rfl⟩) | (with_reducible (refine (k2 _).mono ?_); rintro _ _ ⟨rfl, _, rfl⟩) | (with_reducible (refine (k9 _).mono ?_); rintro _ _ ⟨rfl, _, rfl⟩) | (with_reducible (refine (m1 _).mono ?_); rintro _ _ ⟨rfl, _, rfl⟩)) | (go_at_call 19; first | (with_reducible (refine (k3 _).mono ?_); rintro _ _ ⟨rfl, _, rfl⟩)) | (go_at_call 22; first | (with_reducible (refine (k4 _).mono ?_); rintro _ _ ⟨rfl, _, rfl⟩) | (with_reducible (refine (k5 _).mono ?_); rintro _ _ ⟨rfl, _, rfl⟩)) | (go_at_call 23; first | (with_reducible (refine (k7 _).mono ?_); rintro _ _ ⟨rfl, _, rfl⟩) | (with_reducible (refine (k8 _).mono ?_); rintro _ _ ⟨rfl, _, rfl⟩)))
          all_goals first | (go_ret; refine ⟨rfl, ?_⟩; (repeat (refine below_drewN ?_ _)); first | exact hbel | exact grow_from hbel | exact Below.refl _ _) | (exfalso; simp_all; done) | (exfalso; simp_all; omega)
        have ho := rises_mul hb ha hc nb na hpq (by omega) hX hY (fun e => z2 ((class_zero _).2 e.2))
        obtain ⟨Q, hvQ⟩ : ∃ z0 : Int, z0 = fclass (fmul a c) := ⟨_, rfl⟩
        rw [← hvQ] at m1 z2
        clear hvQ
        obtain ⟨O, hvO⟩ : ∃ z0 : Int, z0 = forder (fmul b c) (fmul a c) := ⟨_, rfl⟩
        rw [← hvO] at m2 ho
        clear hvO
        go_enter Tryd.func6, Tryd.ntmps6
        go_wp2_with (first | (go_at_call 14; (first | (refine (awake_any _ hT).mono ?_) | (refine (awake_any _ (cell_keeps (grow_drewN _ _) hT)).mono ?_)); rintro _ _ ⟨rfl, hbel⟩) | (go_at_call 25; first | (with_reducible (refine (k1 _).mono ?_); rintro _ _ ⟨rfl, _, rfl⟩) | (with_reducible (refine (k2 _).mono ?_); rintro _ _ ⟨rfl, _, rfl⟩) | (with_reducible (refine (k9 _).mono ?_); rintro _ _ ⟨rfl, _, rfl⟩) | (with_reducible (refine (m1 _).mono ?_); rintro _ _ ⟨rfl, _, rfl⟩)) | (go_at_call 19; first | (with_reducible (refine (k3 _).mono ?_); rintro _ _ ⟨rfl, _, rfl⟩) | (with_reducible (refine (m2 _).mono ?_); rintro _ _ ⟨rfl, _, rfl⟩)) | (go_at_call 22; first | (with_reducible (refine (k4 _).mono ?_); rintro _ _ ⟨rfl, _, rfl⟩) | (with_reducible (refine (k5 _).mono ?_); rintro _ _ ⟨rfl, _, rfl⟩)) | (go_at_call 23; first | (with_reducible (refine (k7 _).mono ?_); rintro _ _ ⟨rfl, _, rfl⟩) | (with_reducible (refine (k8 _).mono ?_); rintro _ _ ⟨rfl, _, rfl⟩)))
        all_goals first | (go_ret; refine ⟨rfl, ?_⟩; (repeat (refine below_drewN ?_ _)); first | exact hbel | exact grow_from hbel | exact Below.refl _ _) | (exfalso; simp_all; done) | (exfalso; simp_all; omega)
      · by_cases hs : signB ≤ c
        · have h1 := shr_one hc hs
          obtain ⟨Z, hvZ⟩ : ∃ z0 : Int, z0 = fclass (fmul b c) := ⟨_, rfl⟩
          rw [← hvZ] at k9 z1
          clear hvZ
          have z2b : (Z == 2) = false := beq_eq_false_iff_ne.2 z1
          go_enter Tryd.func6, Tryd.ntmps6
          go_wp2_with (first | (go_at_call 14; (first | (refine (awake_any _ hT).mono ?_) | (refine (awake_any _ (cell_keeps (grow_drewN _ _) hT)).mono ?_)); rintro _ _ ⟨rfl, hbel⟩) | (go_at_call 25; first | (with_reducible (refine (k1 _).mono ?_); rintro _ _ ⟨rfl, _, rfl⟩) | (with_reducible (refine (k2 _).mono ?_); rintro _ _ ⟨rfl, _, rfl⟩) | (with_reducible (refine (k9 _).mono ?_); rintro _ _ ⟨rfl, _, rfl⟩) | (with_reducible (refine (m1 _).mono ?_); rintro _ _ ⟨rfl, _, rfl⟩)) | (go_at_call 19; first | (with_reducible (refine (k3 _).mono ?_); rintro _ _ ⟨rfl, _, rfl⟩)) | (go_at_call 22; first | (with_reducible (refine (k4 _).mono ?_); rintro _ _ ⟨rfl, _, rfl⟩) | (with_reducible (refine (k5 _).mono ?_); rintro _ _ ⟨rfl, _, rfl⟩)) | (go_at_call 23; first | (with_reducible (refine (k7 _).mono ?_); rintro _ _ ⟨rfl, _, rfl⟩) | (with_reducible (refine (k8 _).mono ?_); rintro _ _ ⟨rfl, _, rfl⟩)))
          all_goals first | (go_ret; refine ⟨rfl, ?_⟩; (repeat (refine below_drewN ?_ _)); first | exact hbel | exact grow_from hbel | exact Below.refl _ _) | (exfalso; simp_all; done) | (exfalso; simp_all; omega)
        have h1 := shr_none hs
        by_cases hX : fmul b c = nanB
        · rw [hX] at k7 k9 z1
          obtain ⟨Z, hvZ⟩ : ∃ z0 : Int, z0 = fclass nanB := ⟨_, rfl⟩
          rw [← hvZ] at k9 z1
          clear hvZ
          rw [show ((nanB : Nat) : Int) = 9221120237041090561 from rfl] at k7 k9
          go_enter Tryd.func6, Tryd.ntmps6
          go_wp2_with (first | (go_at_call 14; (first | (refine (awake_any _ hT).mono ?_) | (refine (awake_any _ (cell_keeps (grow_drewN _ _) hT)).mono ?_)); rintro _ _ ⟨rfl, hbel⟩) | (go_at_call 25; first | (with_reducible (refine (k1 _).mono ?_); rintro _ _ ⟨rfl, _, rfl⟩) | (with_reducible (refine (k2 _).mono ?_); rintro _ _ ⟨rfl, _, rfl⟩) | (with_reducible (refine (k9 _).mono ?_); rintro _ _ ⟨rfl, _, rfl⟩) | (with_reducible (refine (m1 _).mono ?_); rintro _ _ ⟨rfl, _, rfl⟩)) | (go_at_call 19; first | (with_reducible (refine (k3 _).mono ?_); rintro _ _ ⟨rfl, _, rfl⟩)) | (go_at_call 22; first | (with_reducible (refine (k4 _).mono ?_); rintro _ _ ⟨rfl, _, rfl⟩) | (with_reducible (refine (k5 _).mono ?_); rintro _ _ ⟨rfl, _, rfl⟩)) | (go_at_call 23; first | (with_reducible (refine (k7 _).mono ?_); rintro _ _ ⟨rfl, _, rfl⟩) | (with_reducible (refine (k8 _).mono ?_); rintro _ _ ⟨rfl, _, rfl⟩)))
          all_goals first | (go_ret; refine ⟨rfl, ?_⟩; (repeat (refine below_drewN ?_ _)); first | exact hbel | exact grow_from hbel | exact Below.refl _ _) | (exfalso; simp_all; done) | (exfalso; simp_all; omega)
        by_cases hY : fmul a c = nanB
        · rw [hY] at k8 m1
          rw [show ((nanB : Nat) : Int) = 9221120237041090561 from rfl] at k8 m1
          have hX' : ¬ ((fmul b c : Nat) : Int) = 9221120237041090561 := fun e => hX (by unfold nanB; omega)
          obtain ⟨Z, hvZ⟩ : ∃ z0 : Int, z0 = fclass (fmul b c) := ⟨_, rfl⟩
          rw [← hvZ] at k9 z1
          clear hvZ
          have z2b : (Z == 2) = false := beq_eq_false_iff_ne.2 z1
          go_enter Tryd.func6, Tryd.ntmps6
          go_wp2_with (first | (go_at_call 14; (first | (refine (awake_any _ hT).mono ?_) | (refine (awake_any _ (cell_keeps (grow_drewN _ _) hT)).mono ?_)); rintro _ _ ⟨rfl, hbel⟩) | (go_at_call 25; first | (with_reducible (refine (k1 _).mono ?_); rintro _ _ ⟨rfl, _, rfl⟩) | (with_reducible (refine (k2 _).mono ?_); rintro _ _ ⟨rfl, _, rfl⟩) | (with_reducible (refine (k9 _).mono ?_); rintro _ _ ⟨rfl, _, rfl⟩) | (with_reducible (refine (m1 _).mono ?_); rintro _ _ ⟨rfl, _, rfl⟩)) | (go_at_call 19; first | (with_reducible (refine (k3 _).mono ?_); rintro _ _ ⟨rfl, _, rfl⟩)) | (go_at_call 22; first | (with_reducible (refine (k4 _).mono ?_); rintro _ _ ⟨rfl, _, rfl⟩) | (with_reducible (refine (k5 _).mono ?_); rintro _ _ ⟨rfl, _, rfl⟩)) | (go_at_call 23; first | (with_reducible (refine (k7 _).mono ?_); rintro _ _ ⟨rfl, _, rfl⟩) | (with_reducible (refine (k8 _).mono ?_); rintro _ _ ⟨rfl, _, rfl⟩)))
          all_goals first | (go_ret; refine ⟨rfl, ?_⟩; (repeat (refine below_drewN ?_ _)); first | exact hbel | exact grow_from hbel | exact Below.refl _ _) | (exfalso; simp_all; done) | (exfalso; simp_all; omega)
        have hX' : ¬ ((fmul b c : Nat) : Int) = 9221120237041090561 := fun e => hX (by unfold nanB; omega)
        have hY' : ¬ ((fmul a c : Nat) : Int) = 9221120237041090561 := fun e => hY (by unfold nanB; omega)
        have ho := rises_mul hb ha hc nb na hpq (by omega) hX hY (fun e => z1 ((class_zero _).2 e.1))
        obtain ⟨O, hvO⟩ : ∃ z0 : Int, z0 = forder (fmul b c) (fmul a c) := ⟨_, rfl⟩
        rw [← hvO] at m2 ho
        clear hvO
        obtain ⟨Z, hvZ⟩ : ∃ z0 : Int, z0 = fclass (fmul b c) := ⟨_, rfl⟩
        rw [← hvZ] at k9 z1
        clear hvZ
        have z2b : (Z == 2) = false := beq_eq_false_iff_ne.2 z1
        go_enter Tryd.func6, Tryd.ntmps6
        go_wp2_with (first | (go_at_call 14; (first | (refine (awake_any _ hT).mono ?_) | (refine (awake_any _ (cell_keeps (grow_drewN _ _) hT)).mono ?_)); rintro _ _ ⟨rfl, hbel⟩) | (go_at_call 25; first | (with_reducible (refine (k1 _).mono ?_); rintro _ _ ⟨rfl, _, rfl⟩) | (with_reducible (refine (k2 _).mono ?_); rintro _ _ ⟨rfl, _, rfl⟩) | (with_reducible (refine (k9 _).mono ?_); rintro _ _ ⟨rfl, _, rfl⟩) | (with_reducible (refine (m1 _).mono ?_); rintro _ _ ⟨rfl, _, rfl⟩)) | (go_at_call 19; first | (with_reducible (refine (k3 _).mono ?_); rintro _ _ ⟨rfl, _, rfl⟩) | (with_reducible (refine (m2 _).mono ?_); rintro _ _ ⟨rfl, _, rfl⟩)) | (go_at_call 22; first | (with_reducible (refine (k4 _).mono ?_); rintro _ _ ⟨rfl, _, rfl⟩) | (with_reducible (refine (k5 _).mono ?_); rintro _ _ ⟨rfl, _, rfl⟩)) | (go_at_call 23; first | (with_reducible (refine (k7 _).mono ?_); rintro _ _ ⟨rfl, _, rfl⟩) | (with_reducible (refine (k8 _).mono ?_); rintro _ _ ⟨rfl, _, rfl⟩)))
        all_goals first | (go_ret; refine ⟨rfl, ?_⟩; (repeat (refine below_drewN ?_ _)); first | exact hbel | exact grow_from hbel | exact Below.refl _ _) | (exfalso; simp_all; done) | (exfalso; simp_all; omega)
    have hx' : ¬ ((fadd b c : Nat) : Int) = 9221120237041090561 := fun e => hx (by unfold nanB; omega)
    have hy' : ¬ ((fadd a c : Nat) : Int) = 9221120237041090561 := fun e => hy (by unfold nanB; omega)
    have hO := rises_add hb ha hc nb na hpq hx hy
    obtain ⟨O1, hvO1⟩ : ∃ z0 : Int, z0 = forder (fadd b c) (fadd a c) := ⟨_, rfl⟩
    rw [← hvO1] at k6 hO
    clear hvO1
    obtain ⟨S, hvS⟩ : ∃ z0 : Int, z0 = ((fadd b c : Nat) : Int) := ⟨_, rfl⟩
    rw [← hvS] at k4 k6 hx'
    clear hvS
    obtain ⟨T, hvT⟩ : ∃ z0 : Int, z0 = ((fadd a c : Nat) : Int) := ⟨_, rfl⟩
    rw [← hvT] at k5 k6 hy'
    clear hvT
    by_cases z1 : fclass (fmul b c) = 2
    · rw [z1] at k9
      by_cases hs : signB ≤ c
      · have h1 := shr_one hc hs
        go_enter Tryd.func6, Tryd.ntmps6
        go_wp2_with (first | (go_at_call 14; (first | (refine (awake_any _ hT).mono ?_) | (refine (awake_any _ (cell_keeps (grow_drewN _ _) hT)).mono ?_)); rintro _ _ ⟨rfl, hbel⟩) | (go_at_call 25; first | (with_reducible (refine (k1 _).mono ?_); rintro _ _ ⟨rfl, _, rfl⟩) | (with_reducible (refine (k2 _).mono ?_); rintro _ _ ⟨rfl, _, rfl⟩) | (with_reducible (refine (k9 _).mono ?_); rintro _ _ ⟨rfl, _, rfl⟩) | (with_reducible (refine (m1 _).mono ?_); rintro _ _ ⟨rfl, _, rfl⟩)) | (go_at_call 19; first | (with_reducible (refine (k3 _).mono ?_); rintro _ _ ⟨rfl, _, rfl⟩) | (with_reducible (refine (k6 _).mono ?_); rintro _ _ ⟨rfl, _, rfl⟩)) | (go_at_call 22; first | (with_reducible (refine (k4 _).mono ?_); rintro _ _ ⟨rfl, _, rfl⟩) | (with_reducible (refine (k5 _).mono ?_); rintro _ _ ⟨rfl, _, rfl⟩)) | (go_at_call 23; first | (with_reducible (refine (k7 _).mono ?_); rintro _ _ ⟨rfl, _, rfl⟩) | (with_reducible (refine (k8 _).mono ?_); rintro _ _ ⟨rfl, _, rfl⟩)))
        all_goals first | (go_ret; refine ⟨rfl, ?_⟩; (repeat (refine below_drewN ?_ _)); first | exact hbel | exact grow_from hbel | exact Below.refl _ _) | (exfalso; simp_all; done) | (exfalso; simp_all; omega)
      have h1 := shr_none hs
      by_cases hX : fmul b c = nanB
      · exfalso
        rw [hX] at z1
        exact absurd z1 (by decide)
      by_cases hY : fmul a c = nanB
      · rw [hY] at k8 m1
        have z2 : fclass nanB = 0 := by decide
        rw [z2] at m1
        rw [show ((nanB : Nat) : Int) = 9221120237041090561 from rfl] at k8 m1
        have hX' : ¬ ((fmul b c : Nat) : Int) = 9221120237041090561 := fun e => hX (by unfold nanB; omega)
        go_enter Tryd.func6, Tryd.ntmps6
        go_wp2_with (first | (go_at_call 14; (first | (refine (awake_any _ hT).mono ?_) | (refine (awake_any _ (cell_keeps (grow_drewN _ _) hT)).mono ?_)); rintro _ _ ⟨rfl, hbel⟩) | (go_at_call 25; first | (with_reducible (refine (k1 _).mono ?_); rintro _ _ ⟨rfl, _, rfl⟩) | (with_reducible (refine (k2 _).mono ?_); rintro _ _ ⟨rfl, _, rfl⟩) | (with_reducible (refine (k9 _).mono ?_); rintro _ _ ⟨rfl, _, rfl⟩) | (with_reducible (refine (m1 _).mono ?_); rintro _ _ ⟨rfl, _, rfl⟩)) | (go_at_call 19; first | (with_reducible (refine (k3 _).mono ?_); rintro _ _ ⟨rfl, _, rfl⟩) | (with_reducible (refine (k6 _).mono ?_); rintro _ _ ⟨rfl, _, rfl⟩)) | (go_at_call 22; first | (with_reducible (refine (k4 _).mono ?_); rintro _ _ ⟨rfl, _, rfl⟩) | (with_reducible (refine (k5 _).mono ?_); rintro _ _ ⟨rfl, _, rfl⟩)) | (go_at_call 23; first | (with_reducible (refine (k7 _).mono ?_); rintro _ _ ⟨rfl, _, rfl⟩) | (with_reducible (refine (k8 _).mono ?_); rintro _ _ ⟨rfl, _, rfl⟩)))
        all_goals first | (go_ret; refine ⟨rfl, ?_⟩; (repeat (refine below_drewN ?_ _)); first | exact hbel | exact grow_from hbel | exact Below.refl _ _) | (exfalso; simp_all; done) | (exfalso; simp_all; omega)
      have hX' : ¬ ((fmul b c : Nat) : Int) = 9221120237041090561 := fun e => hX (by unfold nanB; omega)
      have hY' : ¬ ((fmul a c : Nat) : Int) = 9221120237041090561 := fun e => hY (by unfold nanB; omega)
      by_cases z2 : fclass (fmul a c) = 2
      · rw [z2] at m1
        go_enter Tryd.func6, Tryd.ntmps6
        go_wp2_with (first | (go_at_call 14; (first | (refine (awake_any _ hT).mono ?_) | (refine (awake_any _ (cell_keeps (grow_drewN _ _) hT)).mono ?_)); rintro _ _ ⟨rfl, hbel⟩) | (go_at_call 25; first | (with_reducible (refine (k1 _).mono ?_); rintro _ _ ⟨rfl, _, rfl⟩) | (with_reducible (refine (k2 _).mono ?_); rintro _ _ ⟨rfl, _, rfl⟩) | (with_reducible (refine (k9 _).mono ?_); rintro _ _ ⟨rfl, _, rfl⟩) | (with_reducible (refine (m1 _).mono ?_); rintro _ _ ⟨rfl, _, rfl⟩)) | (go_at_call 19; first | (with_reducible (refine (k3 _).mono ?_); rintro _ _ ⟨rfl, _, rfl⟩) | (with_reducible (refine (k6 _).mono ?_); rintro _ _ ⟨rfl, _, rfl⟩)) | (go_at_call 22; first | (with_reducible (refine (k4 _).mono ?_); rintro _ _ ⟨rfl, _, rfl⟩) | (with_reducible (refine (k5 _).mono ?_); rintro _ _ ⟨rfl, _, rfl⟩)) | (go_at_call 23; first | (with_reducible (refine (k7 _).mono ?_); rintro _ _ ⟨rfl, _, rfl⟩) | (with_reducible (refine (k8 _).mono ?_); rintro _ _ ⟨rfl, _, rfl⟩)))
        all_goals first | (go_ret; refine ⟨rfl, ?_⟩; (repeat (refine below_drewN ?_ _)); first | exact hbel | exact grow_from hbel | exact Below.refl _ _) | (exfalso; simp_all; done) | (exfalso; simp_all; omega)
      have ho := rises_mul hb ha hc nb na hpq (by omega) hX hY (fun e => z2 ((class_zero _).2 e.2))
      obtain ⟨Q, hvQ⟩ : ∃ z0 : Int, z0 = fclass (fmul a c) := ⟨_, rfl⟩
      rw [← hvQ] at m1 z2
      clear hvQ
      obtain ⟨O, hvO⟩ : ∃ z0 : Int, z0 = forder (fmul b c) (fmul a c) := ⟨_, rfl⟩
      rw [← hvO] at m2 ho
      clear hvO
      go_enter Tryd.func6, Tryd.ntmps6
      go_wp2_with (first | (go_at_call 14; (first | (refine (awake_any _ hT).mono ?_) | (refine (awake_any _ (cell_keeps (grow_drewN _ _) hT)).mono ?_)); rintro _ _ ⟨rfl, hbel⟩) | (go_at_call 25; first | (with_reducible (refine (k1 _).mono ?_); rintro _ _ ⟨rfl, _, rfl⟩) | (with_reducible (refine (k2 _).mono ?_); rintro _ _ ⟨rfl, _, rfl⟩) | (with_reducible (refine (k9 _).mono ?_); rintro _ _ ⟨rfl, _, rfl⟩) | (with_reducible (refine (m1 _).mono ?_); rintro _ _ ⟨rfl, _, rfl⟩)) | (go_at_call 19; first | (with_reducible (refine (k3 _).mono ?_); rintro _ _ ⟨rfl, _, rfl⟩) | (with_reducible (refine (k6 _).mono ?_); rintro _ _ ⟨rfl, _, rfl⟩) | (with_reducible (refine (m2 _).mono ?_); rintro _ _ ⟨rfl, _, rfl⟩)) | (go_at_call 22; first | (with_reducible (refine (k4 _).mono ?_); rintro _ _ ⟨rfl, _, rfl⟩) | (with_reducible (refine (k5 _).mono ?_); rintro _ _ ⟨rfl, _, rfl⟩)) | (go_at_call 23; first | (with_reducible (refine (k7 _).mono ?_); rintro _ _ ⟨rfl, _, rfl⟩) | (with_reducible (refine (k8 _).mono ?_); rintro _ _ ⟨rfl, _, rfl⟩)))
      all_goals first | (go_ret; refine ⟨rfl, ?_⟩; (repeat (refine below_drewN ?_ _)); first | exact hbel | exact grow_from hbel | exact Below.refl _ _) | (exfalso; simp_all; done) | (exfalso; simp_all; omega)
    · by_cases hs : signB ≤ c
      · have h1 := shr_one hc hs
        obtain ⟨Z, hvZ⟩ : ∃ z0 : Int, z0 = fclass (fmul b c) := ⟨_, rfl⟩
        rw [← hvZ] at k9 z1
        clear hvZ
        have z2b : (Z == 2) = false := beq_eq_false_iff_ne.2 z1
        go_enter Tryd.func6, Tryd.ntmps6
        go_wp2_with (first | (go_at_call 14; (first | (refine (awake_any _ hT).mono ?_) | (refine (awake_any _ (cell_keeps (grow_drewN _ _) hT)).mono ?_)); rintro _ _ ⟨rfl, hbel⟩) | (go_at_call 25; first | (with_reducible (refine (k1 _).mono ?_); rintro _ _ ⟨rfl, _, rfl⟩) | (with_reducible (refine (k2 _).mono ?_); rintro _ _ ⟨rfl, _, rfl⟩) | (with_reducible (refine (k9 _).mono ?_); rintro _ _ ⟨rfl, _, rfl⟩) | (with_reducible (refine (m1 _).mono ?_); rintro _ _ ⟨rfl, _, rfl⟩)) | (go_at_call 19; first | (with_reducible (refine (k3 _).mono ?_); rintro _ _ ⟨rfl, _, rfl⟩) | (with_reducible (refine (k6 _).mono ?_); rintro _ _ ⟨rfl, _, rfl⟩)) | (go_at_call 22; first | (with_reducible (refine (k4 _).mono ?_); rintro _ _ ⟨rfl, _, rfl⟩) | (with_reducible (refine (k5 _).mono ?_); rintro _ _ ⟨rfl, _, rfl⟩)) | (go_at_call 23; first | (with_reducible (refine (k7 _).mono ?_); rintro _ _ ⟨rfl, _, rfl⟩) | (with_reducible (refine (k8 _).mono ?_); rintro _ _ ⟨rfl, _, rfl⟩)))
        all_goals first | (go_ret; refine ⟨rfl, ?_⟩; (repeat (refine below_drewN ?_ _)); first | exact hbel | exact grow_from hbel | exact Below.refl _ _) | (exfalso; simp_all; done) | (exfalso; simp_all; omega)
      have h1 := shr_none hs
      by_cases hX : fmul b c = nanB
      · rw [hX] at k7 k9 z1
        obtain ⟨Z, hvZ⟩ : ∃ z0 : Int, z0 = fclass nanB := ⟨_, rfl⟩
        rw [← hvZ] at k9 z1
        clear hvZ
        rw [show ((nanB : Nat) : Int) = 9221120237041090561 from rfl] at k7 k9
        go_enter Tryd.func6, Tryd.ntmps6
        go_wp2_with (first | (go_at_call 14; (first | (refine (awake_any _ hT).mono ?_) | (refine (awake_any _ (cell_keeps (grow_drewN _ _) hT)).mono ?_)); rintro _ _ ⟨rfl, hbel⟩) | (go_at_call 25; first | (with_reducible (refine (k1 _).mono ?_); rintro _ _ ⟨rfl, _, rfl⟩) | (with_reducible (refine (k2 _).mono ?_); rintro _ _ ⟨rfl, _, rfl⟩) | (with_reducible (refine (k9 _).mono ?_); rintro _ _ ⟨rfl, _, rfl⟩) | (with_reducible (refine (m1 _).mono ?_); rintro _ _ ⟨rfl, _, rfl⟩)) | (go_at_call 19; first | (with_reducible (refine (k3 _).mono ?_); rintro _ _ ⟨rfl, _, rfl⟩) | (with_reducible (refine (k6 _).mono ?_); rintro _ _ ⟨rfl, _, rfl⟩)) | (go_at_call 22; first | (with_reducible (refine (k4 _).mono ?_); rintro _ _ ⟨rfl, _, rfl⟩) | (with_reducible (refine (k5 _).mono ?_); rintro _ _ ⟨rfl, _, rfl⟩)) | (go_at_call 23; first | (with_reducible (refine (k7 _).mono ?_); rintro _ _ ⟨rfl, _, rfl⟩) | (with_reducible (refine (k8 _).mono ?_); rintro _ _ ⟨rfl, _, rfl⟩)))
        all_goals first | (go_ret; refine ⟨rfl, ?_⟩; (repeat (refine below_drewN ?_ _)); first | exact hbel | exact grow_from hbel | exact Below.refl _ _) | (exfalso; simp_all; done) | (exfalso; simp_all; omega)
      by_cases hY : fmul a c = nanB
      · rw [hY] at k8 m1
        rw [show ((nanB : Nat) : Int) = 9221120237041090561 from rfl] at k8 m1
        have hX' : ¬ ((fmul b c : Nat) : Int) = 9221120237041090561 := fun e => hX (by unfold nanB; omega)
        obtain ⟨Z, hvZ⟩ : ∃ z0 : Int, z0 = fclass (fmul b c) := ⟨_, rfl⟩
        rw [← hvZ] at k9 z1
        clear hvZ
        have z2b : (Z == 2) = false := beq_eq_false_iff_ne.2 z1
        go_enter Tryd.func6, Tryd.ntmps6
        go_wp2_with (first | (go_at_call 14; (first | (refine (awake_any _ hT).mono ?_) | (refine (awake_any _ (cell_keeps (grow_drewN _ _) hT)).mono ?_)); rintro _ _ ⟨rfl, hbel⟩) | (go_at_call 25; first | (with_reducible (refine (k1 _).mono ?_); rintro _ _ ⟨rfl, _, rfl⟩) | (with_reducible (refine (k2 _).mono ?_); rintro _ _ ⟨rfl, _, rfl⟩) | (with_reducible (refine (k9 _).mono ?_); rintro _ _ ⟨rfl, _, rfl⟩) | (with_reducible (refine (m1 _).mono ?_); rintro _ _ ⟨rfl, _, rfl⟩)) | (go_at_call 19; first | (with_reducible (refine (k3 _).mono ?_); rintro _ _ ⟨rfl, _, rfl⟩) | (with_reducible (refine (k6 _).mono ?_); rintro _ _ ⟨rfl, _, rfl⟩)) | (go_at_call 22; first | (with_reducible (refine (k4 _).mono ?_); rintro _ _ ⟨rfl, _, rfl⟩) | (with_reducible (refine (k5 _).mono ?_); rintro _ _ ⟨rfl, _, rfl⟩)) | (go_at_call 23; first | (with_reducible (refine (k7 _).mono ?_); rintro _ _ ⟨rfl, _, rfl⟩) | (with_reducible (refine (k8 _).mono ?_); rintro _ _ ⟨rfl, _, rfl⟩)))
        all_goals first | (go_ret; refine ⟨rfl, ?_⟩; (repeat (refine below_drewN ?_ _)); first | exact hbel | exact grow_from hbel | exact Below.refl _ _) | (exfalso; simp_all; done) | (exfalso; simp_all; omega)
      have hX' : ¬ ((fmul b c : Nat) : Int) = 9221120237041090561 := fun e => hX (by unfold nanB; omega)
      have hY' : ¬ ((fmul a c : Nat) : Int) = 9221120237041090561 := fun e => hY (by unfold nanB; omega)
      have ho := rises_mul hb ha hc nb na hpq (by omega) hX hY (fun e => z1 ((class_zero _).2 e.1))
      obtain ⟨O, hvO⟩ : ∃ z0 : Int, z0 = forder (fmul b c) (fmul a c) := ⟨_, rfl⟩
      rw [← hvO] at m2 ho
      clear hvO
      obtain ⟨Z, hvZ⟩ : ∃ z0 : Int, z0 = fclass (fmul b c) := ⟨_, rfl⟩
      rw [← hvZ] at k9 z1
      clear hvZ
      have z2b : (Z == 2) = false := beq_eq_false_iff_ne.2 z1
      go_enter Tryd.func6, Tryd.ntmps6
      go_wp2_with (first | (go_at_call 14; (first | (refine (awake_any _ hT).mono ?_) | (refine (awake_any _ (cell_keeps (grow_drewN _ _) hT)).mono ?_)); rintro _ _ ⟨rfl, hbel⟩) | (go_at_call 25; first | (with_reducible (refine (k1 _).mono ?_); rintro _ _ ⟨rfl, _, rfl⟩) | (with_reducible (refine (k2 _).mono ?_); rintro _ _ ⟨rfl, _, rfl⟩) | (with_reducible (refine (k9 _).mono ?_); rintro _ _ ⟨rfl, _, rfl⟩) | (with_reducible (refine (m1 _).mono ?_); rintro _ _ ⟨rfl, _, rfl⟩)) | (go_at_call 19; first | (with_reducible (refine (k3 _).mono ?_); rintro _ _ ⟨rfl, _, rfl⟩) | (with_reducible (refine (k6 _).mono ?_); rintro _ _ ⟨rfl, _, rfl⟩) | (with_reducible (refine (m2 _).mono ?_); rintro _ _ ⟨rfl, _, rfl⟩)) | (go_at_call 22; first | (with_reducible (refine (k4 _).mono ?_); rintro _ _ ⟨rfl, _, rfl⟩) | (with_reducible (refine (k5 _).mono ?_); rintro _ _ ⟨rfl, _, rfl⟩)) | (go_at_call 23; first | (with_reducible (refine (k7 _).mono ?_); rintro _ _ ⟨rfl, _, rfl⟩) | (with_reducible (refine (k8 _).mono ?_); rintro _ _ ⟨rfl, _, rfl⟩)))
      all_goals first | (go_ret; refine ⟨rfl, ?_⟩; (repeat (refine below_drewN ?_ _)); first | exact hbel | exact grow_from hbel | exact Below.refl _ _) | (exfalso; simp_all; done) | (exfalso; simp_all; omega)
  · have hpq : forder a b ≤ 0 := by omega
    have k3' := k3
    obtain ⟨O0, hOO⟩ : ∃ x : Int, x = forder a b := ⟨_, rfl⟩
    rw [← hOO] at k3 hO0
    clear hOO k3'
    have k4 := add_any ha hc
    have k5 := add_any hb hc
    have k6 := order_any (fadd_lt a c).1 (fadd_lt b c).1
    have k7 := mul_any ha hc
    have k8 := mul_any hb hc
    have k9 := class_any (fmul_lt a c).1
    have m1 := class_any (fmul_lt b c).1
    have m2 := order_any (fmul_lt a c).1 (fmul_lt b c).1
    by_cases hx : fadd a c = nanB
    · rw [hx] at k4
      rw [show ((nanB : Nat) : Int) = 9221120237041090561 from rfl] at k4
      clear k6
      by_cases z1 : fclass (fmul a c) = 2
      · rw [z1] at k9
        by_cases hs : signB ≤ c
        · have h1 := shr_one hc hs
          go_enter Tryd.func6, Tryd.ntmps6
          go_wp2_with (first | (go_at_call 14; (first | (refine (awake_any _ hT).mono ?_) | (refine (awake_any _ (cell_keeps (grow_drewN _ _) hT)).mono ?_)); rintro _ _ ⟨rfl, hbel⟩) | (go_at_call 25; first | (with_reducible (refine (k1 _).mono ?_); rintro _ _ ⟨rfl, _, rfl⟩) | (with_reducible (refine (k2 _).mono ?_); rintro _ _ ⟨rfl, _, rfl⟩) | (with_reducible (refine (k9 _).mono ?_); rintro _ _ ⟨rfl, _, rfl⟩) | (with_reducible (refine (m1 _).mono ?_); rintro _ _ ⟨rfl, _, rfl⟩)) | (go_at_call 19; first | (with_reducible (refine (k3 _).mono ?_); rintro _ _ ⟨rfl, _, rfl⟩)) | (go_at_call 22; first | (with_reducible (refine (k4 _).mono ?_); rintro _ _ ⟨rfl, _, rfl⟩) | (with_reducible (refine (k5 _).mono ?_); rintro _ _ ⟨rfl, _, rfl⟩)) | (go_at_call 23; first | (with_reducible (refine (k7 _).mono ?_); rintro _ _ ⟨rfl, _, rfl⟩) | (with_reducible (refine (k8 _).mono ?_); rintro _ _ ⟨rfl, _, rfl⟩)))
          all_goals first | (go_ret; refine ⟨rfl, ?_⟩; (repeat (refine below_drewN ?_ _)); first | exact hbel | exact grow_from hbel | exact Below.refl _ _) | (exfalso; simp_all; done) | (exfalso; simp_all; omega)
        have h1 := shr_none hs
        by_cases hX : fmul a c = nanB
        · exfalso
          rw [hX] at z1
          exact absurd z1 (by decide)
        by_cases hY : fmul b c = nanB
        · rw [hY] at k8 m1
          have z2 : fclass nanB = 0 := by decide
          rw [z2] at m1
          rw [show ((nanB : Nat) : Int) = 9221120237041090561 from rfl] at k8 m1
          have hX' : ¬ ((fmul a c : Nat) : Int) = 9221120237041090561 := fun e => hX (by unfold nanB; omega)
          go_enter Tryd.func6, Tryd.ntmps6
          go_wp2_with (first | (go_at_call 14; (first | (refine (awake_any _ hT).mono ?_) | (refine (awake_any _ (cell_keeps (grow_drewN _ _) hT)).mono ?_)); rintro _ _ ⟨rfl, hbel⟩) | (go_at_call 25; first | (with_reducible (refine (k1 _).mono ?_); rintro _ _ ⟨rfl, _, rfl⟩) | (with_reducible (refine (k2 _).mono ?_); rintro _ _ ⟨rfl, _, rfl⟩) | (with_reducible (refine (k9 _).mono ?_); rintro _ _ ⟨rfl, _, rfl⟩) | (with_reducible (refine (m1 _).mono ?_); rintro _ _ ⟨rfl, _, rfl⟩)) | (go_at_call 19; first | (with_reducible (refine (k3 _).mono ?_); rintro _ _ ⟨rfl, _, rfl⟩)) | (go_at_call 22; first | (with_reducible (refine (k4 _).mono ?_); rintro _ _ ⟨rfl, _, rfl⟩) | (with_reducible (refine (k5 _).mono ?_); rintro _ _ ⟨rfl, _, rfl⟩)) | (go_at_call 23; first | (with_reducible (refine (k7 _).mono ?_); rintro _ _ ⟨rfl, _, rfl⟩) | (with_reducible (refine (k8 _).mono ?_); rintro _ _ ⟨rfl, _, rfl⟩)))
          all_goals first | (go_ret; refine ⟨rfl, ?_⟩; (repeat (refine below_drewN ?_ _)); first | exact hbel | exact grow_from hbel | exact Below.refl _ _) | (exfalso; simp_all; done) | (exfalso; simp_all; omega)
        have hX' : ¬ ((fmul a c : Nat) : Int) = 9221120237041090561 := fun e => hX (by unfold nanB; omega)
        have hY' : ¬ ((fmul b c : Nat) : Int) = 9221120237041090561 := fun e => hY (by unfold nanB; omega)
        by_cases z2 : fclass (fmul b c) = 2
        · rw [z2] at m1
          go_enter Tryd.func6, Tryd.ntmps6
          go_wp2_with (first | (go_at_call 14; (first | (refine (awake_any _ hT).mono ?_) | (refine (awake_any _ (cell_keeps (grow_drewN _ _) hT)).mono ?_)); rintro _ _ ⟨rfl, hbel⟩) | (go_at_call 25; first | (with_reducible (refine (k1 _).mono ?_); rintro _ _ ⟨rfl, _, rfl⟩) | (with_reducible (refine (k2 _).mono ?_); rintro _ _ ⟨rfl, _, rfl⟩) | (with_reducible (refine (k9 _).mono ?_); rintro _ _ ⟨rfl, _, rfl⟩) | (with_reducible (refine (m1 _).mono ?_); rintro _ _ ⟨rfl, _, rfl⟩)) | (go_at_call 19; first | (with_reducible (refine (k3 _).mono ?_); rintro _ _ ⟨rfl, _, rfl⟩)) | (go_at_call 22; first | (with_reducible (refine (k4 _).mono ?_); rintro _ _ ⟨rfl, _, rfl⟩) | (with_reducible (refine (k5 _).mono ?_); rintro _ _ ⟨rfl, _, rfl⟩)) | (go_at_call 23; first | (with_reducible (refine (k7 _).mono ?_); rintro _ _ ⟨rfl, _, rfl⟩) | (with_reducible (refine (k8 _).mono ?_); rintro _ _ ⟨rfl, _, rfl⟩)))
          all_goals first | (go_ret; refine ⟨rfl, ?_⟩; (repeat (refine below_drewN ?_ _)); first | exact hbel | exact grow_from hbel | exact Below.refl _ _) | (exfalso; simp_all; done) | (exfalso; simp_all; omega)
        have ho := rises_mul ha hb hc na nb hpq (by omega) hX hY (fun e => z2 ((class_zero _).2 e.2))
        obtain ⟨Q, hvQ⟩ : ∃ z0 : Int, z0 = fclass (fmul b c) := ⟨_, rfl⟩
        rw [← hvQ] at m1 z2
        clear hvQ
        obtain ⟨O, hvO⟩ : ∃ z0 : Int, z0 = forder (fmul a c) (fmul b c) := ⟨_, rfl⟩
        rw [← hvO] at m2 ho
        clear hvO
        go_enter Tryd.func6, Tryd.ntmps6
        go_wp2_with (first | (go_at_call 14; (first | (refine (awake_any _ hT).mono ?_) | (refine (awake_any _ (cell_keeps (grow_drewN _ _) hT)).mono ?_)); rintro _ _ ⟨rfl, hbel⟩) | (go_at_call 25; first | (with_reducible (refine (k1 _).mono ?_); rintro _ _ ⟨rfl, _, rfl⟩) | (with_reducible (refine (k2 _).mono ?_); rintro _ _ ⟨rfl, _, rfl⟩) | (with_reducible (refine (k9 _).mono ?_); rintro _ _ ⟨rfl, _, rfl⟩) | (with_reducible (refine (m1 _).mono ?_); rintro _ _ ⟨rfl, _, rfl⟩)) | (go_at_call 19; first | (with_reducible (refine (k3 _).mono ?_); rintro _ _ ⟨rfl, _, rfl⟩) | (with_reducible (refine (m2 _).mono ?_); rintro _ _ ⟨rfl, _, rfl⟩)) | (go_at_call 22; first | (with_reducible (refine (k4 _).mono ?_); rintro _ _ ⟨rfl, _, rfl⟩) | (with_reducible (refine (k5 _).mono ?_); rintro _ _ ⟨rfl, _, rfl⟩)) | (go_at_call 23; first | (with_reducible (refine (k7 _).mono ?_); rintro _ _ ⟨rfl, _, rfl⟩) | (with_reducible (refine (k8 _).mono ?_); rintro _ _ ⟨rfl, _, rfl⟩)))
        all_goals first | (go_ret; refine ⟨rfl, ?_⟩; (repeat (refine below_drewN ?_ _)); first | exact hbel | exact grow_from hbel | exact Below.refl _ _) | (exfalso; simp_all; done) | (exfalso; simp_all; omega)
      · by_cases hs : signB ≤ c
        · have h1 := shr_one hc hs
          obtain ⟨Z, hvZ⟩ : ∃ z0 : Int, z0 = fclass (fmul a c) := ⟨_, rfl⟩
          rw [← hvZ] at k9 z1
          clear hvZ
          have z2b : (Z == 2) = false := beq_eq_false_iff_ne.2 z1
          go_enter Tryd.func6, Tryd.ntmps6
          go_wp2_with (first | (go_at_call 14; (first | (refine (awake_any _ hT).mono ?_) | (refine (awake_any _ (cell_keeps (grow_drewN _ _) hT)).mono ?_)); rintro _ _ ⟨rfl, hbel⟩) | (go_at_call 25; first | (with_reducible (refine (k1 _).mono ?_); rintro _ _ ⟨rfl, _, rfl⟩) | (with_reducible (refine (k2 _).mono ?_); rintro _ _ ⟨rfl, _, rfl⟩) | (with_reducible (refine (k9 _).mono ?_); rintro _ _ ⟨rfl, _, rfl⟩) | (with_reducible (refine (m1 _).mono ?_); rintro _ _ ⟨rfl, _, rfl⟩)) | (go_at_call 19; first | (with_reducible (refine (k3 _).mono ?_); rintro _ _ ⟨rfl, _, rfl⟩)) | (go_at_call 22; first | (with_reducible (refine (k4 _).mono ?_); rintro _ _ ⟨rfl, _, rfl⟩) | (with_reducible (refine (k5 _).mono ?_); rintro _ _ ⟨rfl, _, rfl⟩)) | (go_at_call 23; first | (with_reducible (refine (k7 _).mono ?_); rintro _ _ ⟨rfl, _, rfl⟩) | (with_reducible (refine (k8 _).mono ?_); rintro _ _ ⟨rfl, _, rfl⟩)))
          all_goals first | (go_ret; refine ⟨rfl, ?_⟩; (repeat (refine below_drewN ?_ _)); first | exact hbel | exact grow_from hbel | exact Below.refl _ _) | (exfalso; simp_all; done) | (exfalso; simp_all; omega)
        have h1 := shr_none hs
        by_cases hX : fmul a c = nanB
        · rw [hX] at k7 k9 z1
          obtain ⟨Z, hvZ⟩ : ∃ z0 : Int, z0 = fclass nanB := ⟨_, rfl⟩
          rw [← hvZ] at k9 z1
          clear hvZ
          rw [show ((nanB : Nat) : Int) = 9221120237041090561 from rfl] at k7 k9
          go_enter Tryd.func6, Tryd.ntmps6
          go_wp2_with (first | (go_at_call 14; (first | (refine (awake_any _ hT).mono ?_) | (refine (awake_any _ (cell_keeps (grow_drewN _ _) hT)).mono ?_)); rintro _ _ ⟨rfl, hbel⟩) | (go_at_call 25; first | (with_reducible (refine (k1 _).mono ?_); rintro _ _ ⟨rfl, _, rfl⟩) | (with_reducible (refine (k2 _).mono ?_); rintro _ _ ⟨rfl, _, rfl⟩) | (with_reducible (refine (k9 _).mono ?_); rintro _ _ ⟨rfl, _, rfl⟩) | (with_reducible (refine (m1 _).mono ?_); rintro _ _ ⟨rfl, _, rfl⟩)) | (go_at_call 19; first | (with_reducible (refine (k3 _).mono ?_); rintro _ _ ⟨rfl, _, rfl⟩)) | (go_at_call 22; first | (with_reducible (refine (k4 _).mono ?_); rintro _ _ ⟨rfl, _, rfl⟩) | (with_reducible (refine (k5 _).mono ?_); rintro _ _ ⟨rfl, _, rfl⟩)) | (go_at_call 23; first | (with_reducible (refine (k7 _).mono ?_); rintro _ _ ⟨rfl, _, rfl⟩) | (with_reducible (refine (k8 _).mono ?_); rintro _ _ ⟨rfl, _, rfl⟩)))
          all_goals first | (go_ret; refine ⟨rfl, ?_⟩; (repeat (refine below_drewN ?_ _)); first | exact hbel | exact grow_from hbel | exact Below.refl _ _) | (exfalso; simp_all; done) | (exfalso; simp_all; omega)
        by_cases hY : fmul b c = nanB
        · rw [hY] at k8 m1
          rw [show ((nanB : Nat) : Int) = 9221120237041090561 from rfl] at k8 m1
          have hX' : ¬ ((fmul a c : Nat) : Int) = 9221120237041090561 := fun e => hX (by unfold nanB; omega)
          obtain ⟨Z, hvZ⟩ : ∃ z0 : Int, z0 = fclass (fmul a c) := ⟨_, rfl⟩
          rw [← hvZ] at k9 z1
          clear hvZ
          have z2b : (Z == 2) = false := beq_eq_false_iff_ne.2 z1
          go_enter Tryd.func6, Tryd.ntmps6
          go_wp2_with (first | (go_at_call 14; (first | (refine (awake_any _ hT).mono ?_) | (refine (awake_any _ (cell_keeps (grow_drewN _ _) hT)).mono ?_)); rintro _ _ ⟨rfl, hbel⟩) | (go_at_call 25; first | (with_reducible (refine (k1 _).mono ?_); rintro _ _ ⟨rfl, _, rfl⟩) | (with_reducible (refine (k2 _).mono ?_); rintro _ _ ⟨rfl, _, rfl⟩) | (with_reducible (refine (k9 _).mono ?_); rintro _ _ ⟨rfl, _, rfl⟩) | (with_reducible (refine (m1 _).mono ?_); rintro _ _ ⟨rfl, _, rfl⟩)) | (go_at_call 19; first | (with_reducible (refine (k3 _).mono ?_); rintro _ _ ⟨rfl, _, rfl⟩)) | (go_at_call 22; first | (with_reducible (refine (k4 _).mono ?_); rintro _ _ ⟨rfl, _, rfl⟩) | (with_reducible (refine (k5 _).mono ?_); rintro _ _ ⟨rfl, _, rfl⟩)) | (go_at_call 23; first | (with_reducible (refine (k7 _).mono ?_); rintro _ _ ⟨rfl, _, rfl⟩) | (with_reducible (refine (k8 _).mono ?_); rintro _ _ ⟨rfl, _, rfl⟩)))
          all_goals first | (go_ret; refine ⟨rfl, ?_⟩; (repeat (refine below_drewN ?_ _)); first | exact hbel | exact grow_from hbel | exact Below.refl _ _) | (exfalso; simp_all; done) | (exfalso; simp_all; omega)
        have hX' : ¬ ((fmul a c : Nat) : Int) = 9221120237041090561 := fun e => hX (by unfold nanB; omega)
        have hY' : ¬ ((fmul b c : Nat) : Int) = 9221120237041090561 := fun e => hY (by unfold nanB; omega)
        have ho := rises_mul ha hb hc na nb hpq (by omega) hX hY (fun e => z1 ((class_zero _).2 e.1))
        obtain ⟨O, hvO⟩ : ∃ z0 : Int, z0 = forder (fmul a c) (fmul b c) := ⟨_, rfl⟩
        rw [← hvO] at m2 ho
        clear hvO
        obtain ⟨Z, hvZ⟩ : ∃ z0 : Int, z0 = fclass (fmul a c) := ⟨_, rfl⟩
        rw [← hvZ] at k9 z1
        clear hvZ
        have z2b : (Z == 2) = false := beq_eq_false_iff_ne.2 z1
        go_enter Tryd.func6, Tryd.ntmps6
        go_wp2_with (first | (go_at_call 14; (first | (refine (awake_any _ hT).mono ?_) | (refine (awake_any _ (cell_keeps (grow_drewN _ _) hT)).mono ?_)); rintro _ _ ⟨rfl, hbel⟩) | (go_at_call 25; first | (with_reducible (refine (k1 _).mono ?_); rintro _ _ ⟨rfl, _, rfl⟩) | (with_reducible (refine (k2 _).mono ?_); rintro _ _ ⟨rfl, _, rfl⟩) | (with_reducible (refine (k9 _).mono ?_); rintro _ _ ⟨rfl, _, rfl⟩) | (with_reducible (refine (m1 _).mono ?_); rintro _ _ ⟨rfl, _, rfl⟩)) | (go_at_call 19; first | (with_reducible (refine (k3 _).mono ?_); rintro _ _ ⟨rfl, _, rfl⟩) | (with_reducible (refine (m2 _).mono ?_); rintro _ _ ⟨rfl, _, rfl⟩)) | (go_at_call 22; first | (with_reducible (refine (k4 _).mono ?_); rintro _ _ ⟨rfl, _, rfl⟩) | (with_reducible (refine (k5 _).mono ?_); rintro _ _ ⟨rfl, _, rfl⟩)) | (go_at_call 23; first | (with_reducible (refine (k7 _).mono ?_); rintro _ _ ⟨rfl, _, rfl⟩) | (with_reducible (refine (k8 _).mono ?_); rintro _ _ ⟨rfl, _, rfl⟩)))
        all_goals first | (go_ret; refine ⟨rfl, ?_⟩; (repeat (refine below_drewN ?_ _)); first | exact hbel | exact grow_from hbel | exact Below.refl _ _) | (exfalso; simp_all; done) | (exfalso; simp_all; omega)
    by_cases hy : fadd b c = nanB
    · have hx' : ¬ ((fadd a c : Nat) : Int) = 9221120237041090561 := fun e => hx (by unfold nanB; omega)
      rw [hy] at k5
      rw [show ((nanB : Nat) : Int) = 9221120237041090561 from rfl] at k5
      clear k6
      obtain ⟨S, hvS⟩ : ∃ z0 : Int, z0 = ((fadd a c : Nat) : Int) := ⟨_, rfl⟩
      rw [← hvS] at k4 hx'
      clear hvS
      by_cases z1 : fclass (fmul a c) = 2
      · rw [z1] at k9
        by_cases hs : signB ≤ c
        · have h1 := shr_one hc hs
          go_enter Tryd.func6, Tryd.ntmps6
          go_wp2_with (first | (go_at_call 14; (first | (refine (awake_any _ hT).mono ?_) | (refine (awake_any _ (cell_keeps (grow_drewN _ _) hT)).mono ?_)); rintro _ _ ⟨rfl, hbel⟩) | (go_at_call 25; first | (with_reducible (refine (k1 _).mono ?_); rintro _ _ ⟨rfl, _, rfl⟩) | (with_reducible (refine (k2 _).mono ?_); rintro _ _ ⟨rfl, _, rfl⟩) | (with_reducible (refine (k9 _).mono ?_); rintro _ _ ⟨rfl, _, rfl⟩) | (with_reducible (refine (m1 _).mono ?_); rintro _ _ ⟨rfl, _, rfl⟩)) | (go_at_call 19; first | (with_reducible (refine (k3 _).mono ?_); rintro _ _ ⟨rfl, _, rfl⟩)) | (go_at_call 22; first | (with_reducible (refine (k4 _).mono ?_); rintro _ _ ⟨rfl, _, rfl⟩) | (with_reducible (refine (k5 _).mono ?_); rintro _ _ ⟨rfl, _, rfl⟩)) | (go_at_call 23; first | (with_reducible (refine (k7 _).mono ?_); rintro _ _ ⟨rfl, _, rfl⟩) | (with_reducible (refine (k8 _).mono ?_); rintro _ _ ⟨rfl, _, rfl⟩)))
          all_goals first | (go_ret; refine ⟨rfl, ?_⟩; (repeat (refine below_drewN ?_ _)); first | exact hbel | exact grow_from hbel | exact Below.refl _ _) | (exfalso; simp_all; done) | (exfalso; simp_all; omega)
        have h1 := shr_none hs
        by_cases hX : fmul a c = nanB
        · exfalso
          rw [hX] at z1
          exact absurd z1 (by decide)
        by_cases hY : fmul b c = nanB
        · rw [hY] at k8 m1
          have z2 : fclass nanB = 0 := by decide
          rw [z2] at m1
          rw [show ((nanB : Nat) : Int) = 9221120237041090561 from rfl] at k8 m1
          have hX' : ¬ ((fmul a c : Nat) : Int) = 9221120237041090561 := fun e => hX (by unfold nanB; omega)
          go_enter Tryd.func6, Tryd.ntmps6
          go_wp2_with (first | (go_at_call 14; (first | (refine (awake_any _ hT).mono ?_) | (refine (awake_any _ (cell_keeps (grow_drewN _ _) hT)).mono ?_)); rintro _ _ ⟨rfl, hbel⟩) | (go_at_call 25; first | (with_reducible (refine (k1 _).mono ?_); rintro _ _ ⟨rfl, _, rfl⟩) | (with_reducible (refine (k2 _).mono ?_); rintro _ _ ⟨rfl, _, rfl⟩) | (with_reducible (refine (k9 _).mono ?_); rintro _ _ ⟨rfl, _, rfl⟩) | (with_reducible (refine (m1 _).mono ?_); rintro _ _ ⟨rfl, _, rfl⟩)) | (go_at_call 19; first | (with_reducible (refine (k3 _).mono ?_); rintro _ _ ⟨rfl, _, rfl⟩)) | (go_at_call 22; first | (with_reducible (refine (k4 _).mono ?_); rintro _ _ ⟨rfl, _, rfl⟩) | (with_reducible (refine (k5 _).mono ?_); rintro _ _ ⟨rfl, _, rfl⟩)) | (go_at_call 23; first | (with_reducible (refine (k7 _).mono ?_); rintro _ _ ⟨rfl, _, rfl⟩) | (with_reducible (refine (k8 _).mono ?_); rintro _ _ ⟨rfl, _, rfl⟩)))
          all_goals first | (go_ret; refine ⟨rfl, ?_⟩; (repeat (refine below_drewN ?_ _)); first | exact hbel | exact grow_from hbel | exact Below.refl _ _) | (exfalso; simp_all; done) | (exfalso; simp_all; omega)
        have hX' : ¬ ((fmul a c : Nat) : Int) = 9221120237041090561 := fun e => hX (by unfold nanB; omega)
        have hY' : ¬ ((fmul b c : Nat) : Int) = 9221120237041090561 := fun e => hY (by unfold nanB; omega)
        by_cases z2 : fclass (fmul b c) = 2
        · rw [z2] at m1
          go_enter Tryd.func6, Tryd.ntmps6
          go_wp2_with (first | (go_at_call 14; (first | (refine (awake_any _ hT).mono ?_) | (refine (awake_any _ (cell_keeps (grow_drewN _ _) hT)).mono ?_)); rintro _ _ ⟨rfl, hbel⟩) | (go_at_call 25; first | (with_reducible (refine (k1 _).mono ?_); rintro _ _ ⟨rfl, _, rfl⟩) | (with_reducible (refine (k2 _).mono ?_); rintro _ _ ⟨rfl, _, rfl⟩) | (with_reducible (refine (k9 _).mono ?_); rintro _ _ ⟨rfl, _, rfl⟩) | (with_reducible (refine (m1 _).mono ?_); rintro _ _ ⟨rfl, _, rfl⟩)) | (go_at_call 19; first | (with_reducible (refine (k3 _).mono ?_); rintro _ _ ⟨rfl, _, rfl⟩)) | (go_at_call 22; first | (with_reducible (refine (k4 _).mono ?_); rintro _ _ ⟨rfl, _, rfl⟩) | (with_reducible (refine (k5 _).mono ?_); rintro _ _ ⟨rfl, _, rfl⟩)) | (go_at_call 23; first | (with_reducible (refine (k7 _).mono ?_); rintro _ _ ⟨rfl, _, rfl⟩) | (with_reducible (refine (k8 _).mono ?_); rintro _ _ ⟨rfl, _, rfl⟩)))
          all_goals first | (go_ret; refine ⟨rfl, ?_⟩; (repeat (refine below_drewN ?_ _)); first | exact hbel | exact grow_from hbel | exact Below.refl _ _) | (exfalso; simp_all; done) | (exfalso; simp_all; omega)
        have ho := rises_mul ha hb hc na nb hpq (by omega) hX hY (fun e => z2 ((class_zero _).2 e.2))
        obtain ⟨Q, hvQ⟩ : ∃ z0 : Int, z0 = fclass (fmul b c) := ⟨_, rfl⟩
        rw [← hvQ] at m1 z2
        clear hvQ
        obtain ⟨O, hvO⟩ : ∃ z0 : Int, z0 = forder (fmul a c) (fmul b c) := ⟨_, rfl⟩
        rw [← hvO] at m2 ho
        clear hvO
        go_enter Tryd.func6, Tryd.ntmps6
        go_wp2_with (first | (go_at_call 14; (first | (refine (awake_any _ hT).mono ?_) | (refine (awake_any _ (cell_keeps (grow_drewN _ _) hT)).mono ?_)); rintro _ _ ⟨rfl, hbel⟩) | (go_at_call 25; first | (with_reducible (refine (k1 _).mono ?_); rintro _ _ ⟨rfl, _, rfl⟩) | (with_reducible (refine (k2 _).mono ?_); rintro _ _ ⟨rfl, _, rfl⟩) | (with_reducible (refine (k9 _).mono ?_); rintro _ _ ⟨rfl, _, rfl⟩) | (with_reducible (refine (m1 _).mono ?_); rintro _ _ ⟨rfl, _, rfl⟩)) | (go_at_call 19; first | (with_reducible (refine (k3 _).mono ?_); rintro _ _ ⟨rfl, _, rfl⟩) | (with_reducible (refine (m2 _).mono ?_); rintro _ _ ⟨rfl, _, rfl⟩)) | (go_at_call 22; first | (with_reducible (refine (k4 _).mono ?_); rintro _ _ ⟨rfl, _, rfl⟩) | (with_reducible (refine (k5 _).mono ?_); rintro _ _ ⟨rfl, _, rfl⟩)) | (go_at_call 23; first | (with_reducible (refine (k7 _).mono ?_); rintro _ _ ⟨rfl, _, rfl⟩) | (with_reducible (refine (k8 _).mono ?_); rintro _ _ ⟨rfl, _, rfl⟩)))
        all_goals first | (go_ret; refine ⟨rfl, ?_⟩; (repeat (refine below_drewN ?_ _)); first | exact hbel | exact grow_from hbel | exact Below.refl _ _) | (exfalso; simp_all; done) | (exfalso; simp_all; omega)
      · by_cases hs : signB ≤ c
        · have h1 := shr_one hc hs
          obtain ⟨Z, hvZ⟩ : ∃ z0 : Int, z0 = fclass (fmul a c) := ⟨_, rfl⟩
          rw [← hvZ] at k9 z1
          clear hvZ
          have z2b : (Z == 2) = false := beq_eq_false_iff_ne.2 z1
          go_enter Tryd.func6, Tryd.ntmps6
          go_wp2_with (first | (go_at_call 14; (first | (refine (awake_any _ hT).mono ?_) | (refine (awake_any _ (cell_keeps (grow_drewN _ _) hT)).mono ?_)); rintro _ _ ⟨rfl, hbel⟩) | (go_at_call 25; first | (with_reducible (refine (k1 _).mono ?_); rintro _ _ ⟨rfl, _, rfl⟩) | (with_reducible (refine (k2 _).mono ?_); rintro _ _ ⟨rfl, _, rfl⟩) | (with_reducible (refine (k9 _).mono ?_); rintro _ _ ⟨rfl, _, rfl⟩) | (with_reducible (refine (m1 _).mono ?_); rintro _ _ ⟨rfl, _, rfl⟩)) | (go_at_call 19; first | (with_reducible (refine (k3 _).mono ?_); rintro _ _ ⟨rfl, _, rfl⟩)) | (go_at_call 22; first | (with_reducible (refine (k4 _).mono ?_); rintro _ _ ⟨rfl, _, rfl⟩) | (with_reducible (refine (k5 _).mono ?_); rintro _ _ ⟨rfl, _, rfl⟩)) | (go_at_call 23; first | (with_reducible (refine (k7 _).mono ?_); rintro _ _ ⟨rfl, _, rfl⟩) | (with_reducible (refine (k8 _).mono ?_); rintro _ _ ⟨rfl, _, rfl⟩)))
          all_goals first | (go_ret; refine ⟨rfl, ?_⟩; (repeat (refine below_drewN ?_ _)); first | exact hbel | exact grow_from hbel | exact Below.refl _ _) | (exfalso; simp_all; done) | (exfalso; simp_all; omega)
        have h1 := shr_none hs
        by_cases hX : fmul a c = nanB
        · rw [hX] at k7 k9 z1
          obtain ⟨Z, hvZ⟩ : ∃ z0 : Int, z0 = fclass nanB := ⟨_, rfl⟩
          rw [← hvZ] at k9 z1
          clear hvZ
          rw [show ((nanB : Nat) : Int) = 9221120237041090561 from rfl] at k7 k9
          go_enter Tryd.func6, Tryd.ntmps6
          go_wp2_with (first | (go_at_call 14; (first | (refine (awake_any _ hT).mono ?_) | (refine (awake_any _ (cell_keeps (grow_drewN _ _) hT)).mono ?_)); rintro _ _ ⟨rfl, hbel⟩) | (go_at_call 25; first | (with_reducible (refine (k1 _).mono ?_); rintro _ _ ⟨rfl, _, rfl⟩) | (with_reducible (refine (k2 _).mono ?_); rintro _ _ ⟨rfl, _, rfl⟩) | (with_reducible (refine (k9 _).mono ?_); rintro _ _ ⟨rfl, _, rfl⟩) | (with_reducible (refine (m1 _).mono ?_); rintro _ _ ⟨rfl, _, rfl⟩)) | (go_at_call 19; first | (with_reducible (refine (k3 _).mono ?_); rintro _ _ ⟨rfl, _, rfl⟩)) | (go_at_call 22; first | (with_reducible (refine (k4 _).mono ?_); rintro _ _ ⟨rfl, _, rfl⟩) | (with_reducible (refine (k5 _).mono ?_); rintro _ _ ⟨rfl, _, rfl⟩)) | (go_at_call 23; first | (with_reducible (refine (k7 _).mono ?_); rintro _ _ ⟨rfl, _, rfl⟩) | (with_reducible (refine (k8 _).mono ?_); rintro _ _ ⟨rfl, _, rfl⟩)))
          all_goals first | (go_ret; refine ⟨rfl, ?_⟩; (repeat (refine below_drewN ?_ _)); first | exact hbel | exact grow_from hbel | exact Below.refl _ _) | (exfalso; simp_all; done) | (exfalso; simp_all; omega)
        by_cases hY : fmul b c = nanB
        · rw [hY] at k8 m1
          rw [show ((nanB : Nat) : Int) = 9221120237041090561 from rfl] at k8 m1
          have hX' : ¬ ((fmul a c : Nat) : Int) = 9221120237041090561 := fun e => hX (by unfold nanB; omega)
          obtain ⟨Z, hvZ⟩ : ∃ z0 : Int, z0 = fclass (fmul a c) := ⟨_, rfl⟩
          rw [← hvZ] at k9 z1
          clear hvZ
          have z2b : (Z == 2) = false := beq_eq_false_iff_ne.2 z1
          go_enter Tryd.func6, Tryd.ntmps6
          go_wp2_with (first | (go_at_call 14; (first | (refine (awake_any _ hT).mono ?_) | (refine (awake_any _ (cell_keeps (grow_drewN _ _) hT)).mono ?_)); rintro _ _ ⟨rfl, hbel⟩) | (go_at_call 25; first | (with_reducible (refine (k1 _).mono ?_); rintro _ _ ⟨rfl, _, rfl⟩) | (with_reducible (refine (k2 _).mono ?_); rintro _ _ ⟨rfl, _, rfl⟩) | (with_reducible (refine (k9 _).mono ?_); rintro _ _ ⟨rfl, _, rfl⟩) | (with_reducible (refine (m1 _).mono ?_); rintro _ _ ⟨rfl, _, rfl⟩)) | (go_at_call 19; first | (with_reducible (refine (k3 _).mono ?_); rintro _ _ ⟨rfl, _, rfl⟩)) | (go_at_call 22; first | (with_reducible (refine (k4 _).mono ?_); rintro _ _ ⟨rfl, _, rfl⟩) | (with_reducible (refine (k5 _).mono ?_); rintro _ _ ⟨rfl, _, rfl⟩)) | (go_at_call 23; first | (with_reducible (refine (k7 _).mono ?_); rintro _ _ ⟨rfl, _, rfl⟩) | (with_reducible (refine (k8 _).mono ?_); rintro _ _ ⟨rfl, _, rfl⟩)))
          all_goals first | (go_ret; refine ⟨rfl, ?_⟩; (repeat (refine below_drewN ?_ _)); first | exact hbel | exact grow_from hbel | exact Below.refl _ _) | (exfalso; simp_all; done) | (exfalso; simp_all; omega)
        have hX' : ¬ ((fmul a c : Nat) : Int) = 9221120237041090561 := fun e => hX (by unfold nanB; omega)
        have hY' : ¬ ((fmul b c : Nat) : Int) = 9221120237041090561 := fun e => hY (by unfold nanB; omega)
        have ho := rises_mul ha hb hc na nb hpq (by omega) hX hY (fun e => z1 ((class_zero _).2 e.1))
        obtain ⟨O, hvO⟩ : ∃ z0 : Int, z0 = forder (fmul a c) (fmul b c) := ⟨_, rfl⟩
        rw [← hvO] at m2 ho
        clear hvO
        obtain ⟨Z, hvZ⟩ : ∃ z0 : Int, z0 = fclass (fmul a c) := ⟨_, rfl⟩
        rw [← hvZ] at k9 z1
        clear hvZ
        have z2b : (Z == 2) = false := beq_eq_false_iff_ne.2 z1
        go_enter Tryd.func6, Tryd.ntmps6
        go_wp2_with (first | (go_at_call 14; (first | (refine (awake_any _ hT).mono ?_) | (refine (awake_any _ (cell_keeps (grow_drewN _ _) hT)).mono ?_)); rintro _ _ ⟨rfl, hbel⟩) | (go_at_call 25; first | (with_reducible (refine (k1 _).mono ?_); rintro _ _ ⟨rfl, _, rfl⟩) | (with_reducible (refine (k2 _).mono ?_); rintro _ _ ⟨rfl, _, rfl⟩) | (with_reducible (refine (k9 _).mono ?_); rintro _ _ ⟨rfl, _, rfl⟩) | (with_reducible (refine (m1 _).mono ?_); rintro _ _ ⟨rfl, _, rfl⟩)) | (go_at_call 19; first | (with_reducible (refine (k3 _).mono ?_); rintro _ _ ⟨rfl, _, rfl⟩) | (with_reducible (refine (m2 _).mono ?_); rintro _ _ ⟨rfl, _, rfl⟩)) | (go_at_call 22; first | (with_reducible (refine (k4 _).mono ?_); rintro _ _ ⟨rfl, _, rfl⟩) | (with_reducible (refine (k5 _).mono ?_); rintro _ _ ⟨rfl, _, rfl⟩)) | (go_at_call 23; first | (with_reducible (refine (k7 _).mono ?_); rintro _ _ ⟨rfl, _, rfl⟩) | (with_reducible (refine (k8 _).mono ?_); rintro _ _ ⟨rfl, _, rfl⟩)))
        all_goals first | (go_ret; refine ⟨rfl, ?_⟩; (repeat (refine below_drewN ?_ _)); first | exact hbel | exact grow_from hbel | exact Below.refl _ _) | (exfalso; simp_all; done) | (exfalso; simp_all; omega)
    have hx' : ¬ ((fadd a c : Nat) : Int) = 9221120237041090561 := fun e => hx (by unfold nanB; omega)
    have hy' : ¬ ((fadd b c : Nat) : Int) = 9221120237041090561 := fun e => hy (by unfold nanB; omega)
    have hO := rises_add ha hb hc na nb hpq hx hy
    obtain ⟨O1, hvO1⟩ : ∃ z0 : Int, z0 = forder (fadd a c) (fadd b c) := ⟨_, rfl⟩
    rw [← hvO1] at k6 hO
    clear hvO1
    obtain ⟨S, hvS⟩ : ∃ z0 : Int, z0 = ((fadd a c : Nat) : Int) := ⟨_, rfl⟩
    rw [← hvS] at k4 k6 hx'
    clear hvS
    obtain ⟨T, hvT⟩ : ∃ z0 : Int, z0 = ((fadd b c : Nat) : Int) := ⟨_, rfl⟩
    rw [← hvT] at k5 k6 hy'
    clear hvT
    by_cases z1 : fclass (fmul a c) = 2
    · rw [z1] at k9
      by_cases hs : signB ≤ c
      · have h1 := shr_one hc hs
        go_enter Tryd.func6, Tryd.ntmps6
        go_wp2_with (first | (go_at_call 14; (first | (refine (awake_any _ hT).mono ?_) | (refine (awake_any _ (cell_keeps (grow_drewN _ _) hT)).mono ?_)); rintro _ _ ⟨rfl, hbel⟩) | (go_at_call 25; first | (with_reducible (refine (k1 _).mono ?_); rintro _ _ ⟨rfl, _, rfl⟩) | (with_reducible (refine (k2 _).mono ?_); rintro _ _ ⟨rfl, _, rfl⟩) | (with_reducible (refine (k9 _).mono ?_); rintro _ _ ⟨rfl, _, rfl⟩) | (with_reducible (refine (m1 _).mono ?_); rintro _ _ ⟨rfl, _, rfl⟩)) | (go_at_call 19; first | (with_reducible (refine (k3 _).mono ?_); rintro _ _ ⟨rfl, _, rfl⟩) | (with_reducible (refine (k6 _).mono ?_); rintro _ _ ⟨rfl, _, rfl⟩)) | (go_at_call 22; first | (with_reducible (refine (k4 _).mono ?_); rintro _ _ ⟨rfl, _, rfl⟩) | (with_reducible (refine (k5 _).mono ?_); rintro _ _ ⟨rfl, _, rfl⟩)) | (go_at_call 23; first | (with_reducible (refine (k7 _).mono ?_); rintro _ _ ⟨rfl, _, rfl⟩) | (with_reducible (refine (k8 _).mono ?_); rintro _ _ ⟨rfl, _, rfl⟩)))
        all_goals first | (go_ret; refine ⟨rfl, ?_⟩; (repeat (refine below_drewN ?_ _)); first | exact hbel | exact grow_from hbel | exact Below.refl _ _) | (exfalso; simp_all; done) | (exfalso; simp_all; omega)
      have h1 := shr_none hs
      by_cases hX : fmul a c = nanB
      · exfalso
        rw [hX] at z1
        exact absurd z1 (by decide)
      by_cases hY : fmul b c = nanB
      · rw [hY] at k8 m1
        have z2 : fclass nanB = 0 := by decide
        rw [z2] at m1
        rw [show ((nanB : Nat) : Int) = 9221120237041090561 from rfl] at k8 m1
        have hX' : ¬ ((fmul a c : Nat) : Int) = 9221120237041090561 := fun e => hX (by unfold nanB; omega)
        go_enter Tryd.func6, Tryd.ntmps6
        go_wp2_with (first | (go_at_call 14; (first | (refine (awake_any _ hT).mono ?_) | (refine (awake_any _ (cell_keeps (grow_drewN _ _) hT)).mono ?_)); rintro _ _ ⟨rfl, hbel⟩) | (go_at_call 25; first | (with_reducible (refine (k1 _).mono ?_); rintro _ _ ⟨rfl, _, rfl⟩) | (with_reducible (refine (k2 _).mono ?_); rintro _ _ ⟨rfl, _, rfl⟩) | (with_reducible (refine (k9 _).mono ?_); rintro _ _ ⟨rfl, _, rfl⟩) | (with_reducible (refine (m1 _).mono ?_); rintro _ _ ⟨rfl, _, rfl⟩)) | (go_at_call 19; first | (with_reducible (refine (k3 _).mono ?_); rintro _ _ ⟨rfl, _, rfl⟩) | (with_reducible (refine (k6 _).mono ?_); rintro _ _ ⟨rfl, _, rfl⟩)) | (go_at_call 22; first | (with_reducible (refine (k4 _).mono ?_); rintro _ _ ⟨rfl, _, rfl⟩) | (with_reducible (refine (k5 _).mono ?_); rintro _ _ ⟨rfl, _, rfl⟩)) | (go_at_call 23; first | (with_reducible (refine (k7 _).mono ?_); rintro _ _ ⟨rfl, _, rfl⟩) | (with_reducible (refine (k8 _).mono ?_); rintro _ _ ⟨rfl, _, rfl⟩)))
        all_goals first | (go_ret; refine ⟨rfl, ?_⟩; (repeat (refine below_drewN ?_ _)); first | exact hbel | exact grow_from hbel | exact Below.refl _ _) | (exfalso; simp_all; done) | (exfalso; simp_all; omega)
      have hX' : ¬ ((fmul a c : Nat) : Int) = 9221120237041090561 := fun e => hX (by unfold nanB; omega)
      have hY' : ¬ ((fmul b c : Nat) : Int) = 9221120237041090561 := fun e => hY (by unfold nanB; omega)
      by_cases z2 : fclass (fmul b c) = 2
      · rw [z2] at m1
        go_enter Tryd.func6, Tryd.ntmps6
        go_wp2_with (first | (go_at_call 14; (first | (refine (awake_any _ hT).mono ?_) | (refine (awake_any _ (cell_keeps (grow_drewN _ _) hT)).mono ?_)); rintro _ _ ⟨rfl, hbel⟩) | (go_at_call 25; first | (with_reducible (refine (k1 _).mono ?_); rintro _ _ ⟨rfl, _, rfl⟩) | (with_reducible (refine (k2 _).mono ?_); rintro _ _ ⟨rfl, _, rfl⟩) | (with_reducible (refine (k9 _).mono ?_); rintro _ _ ⟨rfl, _, rfl⟩) | (with_reducible (refine (m1 _).mono ?_); rintro _ _ ⟨rfl, _, rfl⟩)) | (go_at_call 19; first | (with_reducible (refine (k3 _).mono ?_); rintro _ _ ⟨rfl, _, rfl⟩) | (with_reducible (refine (k6 _).mono ?_); rintro _ _ ⟨rfl, _, rfl⟩)) | (go_at_call 22; first | (with_reducible (refine (k4 _).mono ?_); rintro _ _ ⟨rfl, _, rfl⟩) | (with_reducible (refine (k5 _).mono ?_); rintro _ _ ⟨rfl, _, rfl⟩)) | (go_at_call 23; first | (with_reducible (refine (k7 _).mono ?_); rintro _ _ ⟨rfl, _, rfl⟩) | (with_reducible (refine (k8 _).mono ?_); rintro _ _ ⟨rfl, _, rfl⟩)))
        all_goals first | (go_ret; refine ⟨rfl, ?_⟩; (repeat (refine below_drewN ?_ _)); first | exact hbel | exact grow_from hbel | exact Below.refl _ _) | (exfalso; simp_all; done) | (exfalso; simp_all; omega)
      have ho := rises_mul ha hb hc na nb hpq (by omega) hX hY (fun e => z2 ((class_zero _).2 e.2))
      obtain ⟨Q, hvQ⟩ : ∃ z0 : Int, z0 = fclass (fmul b c) := ⟨_, rfl⟩
      rw [← hvQ] at m1 z2
      clear hvQ
      obtain ⟨O, hvO⟩ : ∃ z0 : Int, z0 = forder (fmul a c) (fmul b c) := ⟨_, rfl⟩
      rw [← hvO] at m2 ho
      clear hvO
      go_enter Tryd.func6, Tryd.ntmps6
      go_wp2_with (first | (go_at_call 14; (first | (refine (awake_any _ hT).mono ?_) | (refine (awake_any _ (cell_keeps (grow_drewN _ _) hT)).mono ?_)); rintro _ _ ⟨rfl, hbel⟩) | (go_at_call 25; first | (with_reducible (refine (k1 _).mono ?_); rintro _ _ ⟨rfl, _, rfl⟩) | (with_reducible (refine (k2 _).mono ?_); rintro _ _ ⟨rfl, _, rfl⟩) | (with_reducible (refine (k9 _).mono ?_); rintro _ _ ⟨rfl, _, rfl⟩) | (with_reducible (refine (m1 _).mono ?_); rintro _ _ ⟨rfl, _, rfl⟩)) | (go_at_call 19; first | (with_reducible (refine (k3 _).mono ?_); rintro _ _ ⟨rfl, _, rfl⟩) | (with_reducible (refine (k6 _).mono ?_); rintro _ _ ⟨rfl, _, rfl⟩) | (with_reducible (refine (m2 _).mono ?_); rintro _ _ ⟨rfl, _, rfl⟩)) | (go_at_call 22; first | (with_reducible (refine (k4 _).mono ?_); rintro _ _ ⟨rfl, _, rfl⟩) | (with_reducible (refine (k5 _).mono ?_); rintro _ _ ⟨rfl, _, rfl⟩)) | (go_at_call 23; first | (with_reducible (refine (k7 _).mono ?_); rintro _ _ ⟨rfl, _, rfl⟩) | (with_reducible (refine (k8 _).mono ?_); rintro _ _ ⟨rfl, _, rfl⟩)))
      all_goals first | (go_ret; refine ⟨rfl, ?_⟩; (repeat (refine below_drewN ?_ _)); first | exact hbel | exact grow_from hbel | exact Below.refl _ _) | (exfalso; simp_all; done) | (exfalso; simp_all; omega)
    · by_cases hs : signB ≤ c
      · have h1 := shr_one hc hs
        obtain ⟨Z, hvZ⟩ : ∃ z0 : Int, z0 = fclass (fmul a c) := ⟨_, rfl⟩
        rw [← hvZ] at k9 z1
        clear hvZ
        have z2b : (Z == 2) = false := beq_eq_false_iff_ne.2 z1
        go_enter Tryd.func6, Tryd.ntmps6
        go_wp2_with (first | (go_at_call 14; (first | (refine (awake_any _ hT).mono ?_) | (refine (awake_any _ (cell_keeps (grow_drewN _ _) hT)).mono ?_)); rintro _ _ ⟨rfl, hbel⟩) | (go_at_call 25; first | (with_reducible (refine (k1 _).mono ?_); rintro _ _ ⟨rfl, _, rfl⟩) | (with_reducible (refine (k2 _).mono ?_); rintro _ _ ⟨rfl, _, rfl⟩) | (with_reducible (refine (k9 _).mono ?_); rintro _ _ ⟨rfl, _, rfl⟩) | (with_reducible (refine (m1 _).mono ?_); rintro _ _ ⟨rfl, _, rfl⟩)) | (go_at_call 19; first | (with_reducible (refine (k3 _).mono ?_); rintro _ _ ⟨rfl, _, rfl⟩) | (with_reducible (refine (k6 _).mono ?_); rintro _ _ ⟨rfl, _, rfl⟩)) | (go_at_call 22; first | (with_reducible (refine (k4 _).mono ?_); rintro _ _ ⟨rfl, _, rfl⟩) | (with_reducible (refine (k5 _).mono ?_); rintro _ _ ⟨rfl, _, rfl⟩)) | (go_at_call 23; first | (with_reducible (refine (k7 _).mono ?_); rintro _ _ ⟨rfl, _, rfl⟩) | (with_reducible (refine (k8 _).mono ?_); rintro _ _ ⟨rfl, _, rfl⟩)))
        all_goals first | (go_ret; refine ⟨rfl, ?_⟩; (repeat (refine below_drewN ?_ _)); first | exact hbel | exact grow_from hbel | exact Below.refl _ _) | (exfalso; simp_all; done) | (exfalso; simp_all; omega)
      have h1 := shr_none hs
      by_cases hX : fmul a c = nanB
      · rw [hX] at k7 k9 z1
        obtain ⟨Z, hvZ⟩ : ∃ z0 : Int, z0 = fclass nanB := ⟨_, rfl⟩
        rw [← hvZ] at k9 z1
        clear hvZ
        rw [show ((nanB : Nat) : Int) = 9221120237041090561 from rfl] at k7 k9
        go_enter Tryd.func6, Tryd.ntmps6
        go_wp2_with (first | (go_at_call 14; (first | (refine (awake_any _ hT).mono ?_) | (refine (awake_any _ (cell_keeps (grow_drewN _ _) hT)).mono ?_)); rintro _ _ ⟨rfl, hbel⟩) | (go_at_call 25; first | (with_reducible (refine (k1 _).mono ?_); rintro _ _ ⟨rfl, _, rfl⟩) | (with_reducible (refine (k2 _).mono ?_); rintro _ _ ⟨rfl, _, rfl⟩) | (with_reducible (refine (k9 _).mono ?_); rintro _ _ ⟨rfl, _, rfl⟩) | (with_reducible (refine (m1 _).mono ?_); rintro _ _ ⟨rfl, _, rfl⟩)) | (go_at_call 19; first | (with_reducible (refine (k3 _).mono ?_); rintro _ _ ⟨rfl, _, rfl⟩) | (with_reducible (refine (k6 _).mono ?_); rintro _ _ ⟨rfl, _, rfl⟩)) | (go_at_call 22; first | (with_reducible (refine (k4 _).mono ?_); rintro _ _ ⟨rfl, _, rfl⟩) | (with_reducible (refine (k5 _).mono ?_); rintro _ _ ⟨rfl, _, rfl⟩)) | (go_at_call 23; first | (with_reducible (refine (k7 _).mono ?_); rintro _ _ ⟨rfl, _, rfl⟩) | (with_reducible (refine (k8 _).mono ?_); rintro _ _ ⟨rfl, _, rfl⟩)))
        all_goals first | (go_ret; refine ⟨rfl, ?_⟩; (repeat (refine below_drewN ?_ _)); first | exact hbel | exact grow_from hbel | exact Below.refl _ _) | (exfalso; simp_all; done) | (exfalso; simp_all; omega)
      by_cases hY : fmul b c = nanB
      · rw [hY] at k8 m1
        rw [show ((nanB : Nat) : Int) = 9221120237041090561 from rfl] at k8 m1
        have hX' : ¬ ((fmul a c : Nat) : Int) = 9221120237041090561 := fun e => hX (by unfold nanB; omega)
        obtain ⟨Z, hvZ⟩ : ∃ z0 : Int, z0 = fclass (fmul a c) := ⟨_, rfl⟩
        rw [← hvZ] at k9 z1
        clear hvZ
        have z2b : (Z == 2) = false := beq_eq_false_iff_ne.2 z1
        go_enter Tryd.func6, Tryd.ntmps6
        go_wp2_with (first | (go_at_call 14; (first | (refine (awake_any _ hT).mono ?_) | (refine (awake_any _ (cell_keeps (grow_drewN _ _) hT)).mono ?_)); rintro _ _ ⟨rfl, hbel⟩) | (go_at_call 25; first | (with_reducible (refine (k1 _).mono ?_); rintro _ _ ⟨rfl, _, rfl⟩) | (with_reducible (refine (k2 _).mono ?_); rintro _ _ ⟨rfl, _, rfl⟩) | (with_reducible (refine (k9 _).mono ?_); rintro _ _ ⟨rfl, _, rfl⟩) | (with_reducible (refine (m1 _).mono ?_); rintro _ _ ⟨rfl, _, rfl⟩)) | (go_at_call 19; first | (with_reducible (refine (k3 _).mono ?_); rintro _ _ ⟨rfl, _, rfl⟩) | (with_reducible (refine (k6 _).mono ?_); rintro _ _ ⟨rfl, _, rfl⟩)) | (go_at_call 22; first | (with_reducible (refine (k4 _).mono ?_); rintro _ _ ⟨rfl, _, rfl⟩) | (with_reducible (refine (k5 _).mono ?_); rintro _ _ ⟨rfl, _, rfl⟩)) | (go_at_call 23; first | (with_reducible (refine (k7 _).mono ?_); rintro _ _ ⟨rfl, _, rfl⟩) | (with_reducible (refine (k8 _).mono ?_); rintro _ _ ⟨rfl, _, rfl⟩)))
        all_goals first | (go_ret; refine ⟨rfl, ?_⟩; (repeat (refine below_drewN ?_ _)); first | exact hbel | exact grow_from hbel | exact Below.refl _ _) | (exfalso; simp_all; done) | (exfalso; simp_all; omega)
      have hX' : ¬ ((fmul a c : Nat) : Int) = 9221120237041090561 := fun e => hX (by unfold nanB; omega)
      have hY' : ¬ ((fmul b c : Nat) : Int) = 9221120237041090561 := fun e => hY (by unfold nanB; omega)
      have ho := rises_mul ha hb hc na nb hpq (by omega) hX hY (fun e => z1 ((class_zero _).2 e.1))
      obtain ⟨O, hvO⟩ : ∃ z0 : Int, z0 = forder (fmul a c) (fmul b c) := ⟨_, rfl⟩
      rw [← hvO] at m2 ho
      clear hvO
      obtain ⟨Z, hvZ⟩ : ∃ z0 : Int, z0 = fclass (fmul a c) := ⟨_, rfl⟩
      rw [← hvZ] at k9 z1
      clear hvZ
      have z2b : (Z == 2) = false := beq_eq_false_iff_ne.2 z1
      go_enter Tryd.func6, Tryd.ntmps6
      go_wp2_with (first | (go_at_call 14; (first | (refine (awake_any _ hT).mono ?_) | (refine (awake_any _ (cell_keeps (grow_drewN _ _) hT)).mono ?_)); rintro _ _ ⟨rfl, hbel⟩) | (go_at_call 25; first | (with_reducible (refine (k1 _).mono ?_); rintro _ _ ⟨rfl, _, rfl⟩) | (with_reducible (refine (k2 _).mono ?_); rintro _ _ ⟨rfl, _, rfl⟩) | (with_reducible (refine (k9 _).mono ?_); rintro _ _ ⟨rfl, _, rfl⟩) | (with_reducible (refine (m1 _).mono ?_); rintro _ _ ⟨rfl, _, rfl⟩)) | (go_at_call 19; first | (with_reducible (refine (k3 _).mono ?_); rintro _ _ ⟨rfl, _, rfl⟩) | (with_reducible (refine (k6 _).mono ?_); rintro _ _ ⟨rfl, _, rfl⟩) | (with_reducible (refine (m2 _).mono ?_); rintro _ _ ⟨rfl, _, rfl⟩)) | (go_at_call 22; first | (with_reducible (refine (k4 _).mono ?_); rintro _ _ ⟨rfl, _, rfl⟩) | (with_reducible (refine (k5 _).mono ?_); rintro _ _ ⟨rfl, _, rfl⟩)) | (go_at_call 23; first | (with_reducible (refine (k7 _).mono ?_); rintro _ _ ⟨rfl, _, rfl⟩) | (with_reducible (refine (k8 _).mono ?_); rintro _ _ ⟨rfl, _, rfl⟩)))
      all_goals first | (go_ret; refine ⟨rfl, ?_⟩; (repeat (refine below_drewN ?_ _)); first | exact hbel | exact grow_from hbel | exact Below.refl _ _) | (exfalso; simp_all; done) | (exfalso; simp_all; omega)

-- LIFT
set_option maxRecDepth 100000 in
theorem contract (H : Type) (enc : TypeId × Value → H) (W : World) (base : Nat) (args : Array Value) (ds gs : List (DataW H)) (before : List MemPlace)
    (hval : ∀ (j : Nat) t v, Tryd.f6.params[j]? = some t → args[j]? = some v → Value.okWide Tryd.prog W .any base t v)
    (hW : DataW.Whole enc Tryd.prog Tryd.f6.params.toList Rows.numRisesSpec.vars false W args.toList ds gs before) (hL : laidMetH Tryd.prog Rows.numRisesRow.laid W) :
    Calls Tryd.prog 6 args W fun e W' => ∃ v, e = .returned v ∧ Rows.numRisesSpec.post enc Tryd.prog Tryd.f6 false true false false W args v W' := by
  have hT := cell_of (show laidMetH Tryd.prog laidOf W from hL)
  clear hL
  have hts : Tryd.f6.params.toList.all (fun t => Tryd.prog.readableRec t && decide (t < Tryd.prog.types.size)) = true := by kernel_rfl
  have hW' := hW
  obtain ⟨p, q, hA0, hV, rfl, hfz, hnd⟩ := hW
  have hA : DataW.TrodAll enc Tryd.prog W 0 (fun _ => true) true Tryd.f6.params.toList args.toList ds p := hA0
  rw [Tryd.params6] at hA hval
  obtain ⟨v0, vs0, d0, ds0, p0, q0, hargs, rfl, rfl, h0, r0⟩ := trodAll_cons hA
  obtain ⟨v1, vs1, d1, ds1, p1, q1, rfl, rfl, rfl, h1, r1⟩ := trodAll_cons r0
  obtain ⟨v2, vs2, d2, ds2, p2, q2, rfl, rfl, rfl, h2, r2⟩ := trodAll_cons r1
  obtain ⟨rfl, rfl, rfl⟩ := trodAll_nil r2
  obtain rfl : args = #[v0, v1, v2] := by cases args; simp_all
  obtain ⟨rfl, rfl⟩ := trodVars_none hV
  have hfn : Rows.numRisesSpec.fn H ([d0, d1, d2] ++ []) = { results := [.lit (.bool true)], args := [d0, d1, d2] } := rfl
  have hfin := fun W' (hbel : Below W.heap.size W W') => law_post (f := Tryd.f6) (s := Rows.numRisesSpec) 4 Tryd.laid hts rfl Tryd.underlying4 rfl hfn hW' hbel
  clear hA0 hts hfn
  obtain ⟨a0, rfl, rfl, rfl, w0⟩ := open_int Tryd.underlying22 (hval 0 22 v0 rfl rfl) h0
  obtain ⟨a1, rfl, rfl, rfl, w1⟩ := open_int Tryd.underlying22 (hval 1 22 v1 rfl rfl) h1
  obtain ⟨a2, rfl, rfl, rfl, w2⟩ := open_int Tryd.underlying22 (hval 2 22 v2 rfl rfl) h2
  have x0 : 0 ≤ a0 ∧ a0 ≤ 18446744073709551615 := by simpa [Lit.wf, IntKind.min, IntKind.max, IntKind.signed, IntKind.bits] using w0
  obtain ⟨n0, rfl⟩ := Int.eq_ofNat_of_zero_le x0.1
  have x1 : 0 ≤ a1 ∧ a1 ≤ 18446744073709551615 := by simpa [Lit.wf, IntKind.min, IntKind.max, IntKind.signed, IntKind.bits] using w1
  obtain ⟨n1, rfl⟩ := Int.eq_ofNat_of_zero_le x1.1
  have x2 : 0 ≤ a2 ∧ a2 ≤ 18446744073709551615 := by simpa [Lit.wf, IntKind.min, IntKind.max, IntKind.signed, IntKind.bits] using w2
  obtain ⟨n2, rfl⟩ := Int.eq_ofNat_of_zero_le x2.1
  exact (walk n0 n1 n2 W hT (by unfold signB; omega) (by unfold signB; omega) (by unfold signB; omega)).mono fun e W' ⟨he, hg⟩ => ⟨_, he, hfin W' hg⟩

theorem reads (os : Os) {H : Type} (enc : TypeId × Value → H) : ∃ places, DataW.whole enc Tryd.prog ((laidWorld os).forCall (fun _ _ => 0) ⟨#[], #[.int .u64 0, .int .u64 0, .int .u64 0], []⟩).memory Tryd.f6.params.toList Rows.numRisesSpec.vars false #[.int .u64 0, .int .u64 0, .int .u64 0].toList 8 = some ([.lit (.int .u64 0), .lit (.int .u64 0), .lit (.int .u64 0)], [], places) :=
  ⟨[], by kernel_rfl⟩
theorem laid_met (os : Os) : laidMet Tryd.prog Rows.numRisesRow.laid ((laidWorld os).forCall (fun _ _ => 0) ⟨#[], #[.int .u64 0, .int .u64 0, .int .u64 0], []⟩).memory := laid_here os #[.int .u64 0, .int .u64 0, .int .u64 0]

set_option maxRecDepth 100000 in
theorem lifted (os : Os) (started : os.Started) (H : Type) (enc : TypeId × Value → H) (F : Stop.Interp) :
    ReturnsInHanded {} Tryd.checked os 6 .any ((OpenSpec.ofChange Rows.numRisesSpec).preRow enc Tryd.prog Tryd.f6 Rows.numRisesRow.domain false Rows.numRisesRow.laid) (((OpenSpec.ofChange Rows.numRisesSpec).at F).post enc Tryd.prog Tryd.f6 false true false false) := by
  obtain ⟨places, hx⟩ := reads os enc
  refine returnsInHanded_of_row (C := Tryd.checked) (s := OpenSpec.ofChange Rows.numRisesSpec) Tryd.own started (by kernel_rfl) Tryd.func6
    (witness_row_atRef (enc := enc) (C := Tryd.checked) false (laidWorld os) #[.int .u64 0, .int .u64 0, .int .u64 0] rfl (by kernel_rfl) (by kernel_rfl) (by kernel_rfl)
      (OpenSpec.preRow_of_cond 8 hx (by kernel_rfl) (fun k hk => by cases hk) (by kernel_rfl) (laid_met os))) ?_
  intro W base args ds gs before hval hW _ _ _ hL _ _
  exact contract H enc W base args ds gs before hval hW hL

theorem said : Rows.NumRisesSaid :=
  OpenClaim.holds_of_cond 6 Tryd.f6 rfl rfl rfl rfl rfl rfl rfl ⟨rfl, rfl, rfl, rfl, rfl⟩ rfl rfl rfl rfl rfl (by kernel_rfl) Tryd.func6 (by kernel_rfl)
    (of_decide_eq_true (by kernel_rfl)) (by unfold Func.isWrapper; first | (rw [if_pos (by decide +kernel)]; kernel_rfl) | (rw [if_neg (by decide +kernel)]; exact ⟨rfl, rfl⟩))
    (fun os started H enc _ F => by rw [OpenClaim.pre_eq_preRow]; exact lifted os started H enc F)

theorem plain (f : FuncId) (fn : Func) (hf : Tryd.pinned.checked.prog.funcNamed "gaffer/gafferlaw01.NumRises" = some f) (hfn : Tryd.pinned.checked.prog.funcs[f]? = some fn) :
    true = Tryd.pinned.checked.prog.looks [] ∧ ∀ (j : Nat) t, fn.params[j]? = some t → Tryd.pinned.checked.prog.wantsStandIn t = false := by
  obtain rfl : f = 6 := Option.some.inj ((show Tryd.prog.funcNamed "gaffer/gafferlaw01.NumRises" = some 6 by kernel_rfl).symm.trans hf) |>.symm
  obtain rfl : fn = Tryd.f6 := (Option.some.inj (Tryd.func6.symm.trans hfn)).symm
  refine ⟨by kernel_rfl, fun j t ht => ?_⟩
  rw [Tryd.params6] at ht
  have hm := Array.mem_of_getElem? ht
  simp only [List.mem_toArray, List.mem_cons, List.not_mem_nil, or_false] at hm
  rcases hm with rfl | rfl | rfl
  · exact (show Tryd.prog.wantsStandIn 22 = false by kernel_rfl)
  · exact (show Tryd.prog.wantsStandIn 22 = false by kernel_rfl)
  · exact (show Tryd.prog.wantsStandIn 22 = false by kernel_rfl)

theorem proved : Rows.NumRisesCardSaid :=
  Claim7.holds_tied_plain_at .later [] _ _ _ _ said (fun _ h => by cases h) (by kernel_rfl) (fun _ h => by cases h) numRises_row_tie rfl ⟨rfl, rfl⟩ (by kernel_rfl) rfl plain (by kernel_rfl)

end Go.Proofs.YthbdgdapchplgaaDoor.numRises
