/- The document's whole numbers: Of, Floor, Int (contracts). -/
import Derived.Test.YtjloiclbknfomaaGreatDoorNumDiv
set_option maxRecDepth 100000
namespace Go.Proofs.YtjloiclbknfomaaGreatDoor
open Go.RowKit

theorem sgn_t : ((sgn true : Nat) : Int) = 9223372036854775808 := rfl
theorem sgn_f : ((sgn false : Nat) : Int) = 0 := rfl
set_option maxHeartbeats 8000000 in
set_option maxRecDepth 100000 in
theorem rof_any {n : Int} (h0 : -9223372036854775808 ≤ n) (h1 : n ≤ 9223372036854775807) : Grew 47 #[.int .i64 n] (.int .u64 ((fof n : Nat) : Int)) := by
  intro W
  rw [fof_eq ⟨h0, h1⟩]
  have hr : rOf n = if n = 0 then 0 else rnd (decide (n < 0)) n.natAbs 0 false := rfl
  rw [hr]
  by_cases c : n = 0
  · subst c
    rw [if_pos rfl]
    clear hr
    go_enter Tryz.func47, Tryz.ntmps47
    go_wp2
    go_ret
    exact ⟨rfl, Below.refl _ _⟩
  · rw [if_neg c]
    have c1 : (n == 0) = false := beq_eq_false_iff_ne.2 c
    by_cases d : n < 0
    · rw [decide_eq_true d]
      have w1 : IntKind.u64.wrap (IntKind.i64.wrap (-n)) = ((n.natAbs : Nat) : Int) := by
        rw [IntKind.wrap_i64, IntKind.wrap_u64]
        omega
      have w2 : IntKind.u64.wrap (wrap64 (-n)) = ((n.natAbs : Nat) : Int) := by
        rw [IntKind.wrap_u64]
        unfold wrap64
        omega
      have kr := fun X => rounded_any true false (w := n.natAbs) (e := 0) (by omega) (by omega) (by omega) X
      rw [agw (n := n.natAbs) (by omega), sgn_t] at kr
      obtain ⟨v, hv⟩ : ∃ v, v = rnd true n.natAbs 0 false := ⟨_, rfl⟩
      obtain ⟨k, hk⟩ : ∃ k, k = n.natAbs := ⟨_, rfl⟩
      rw [← hv] at kr ⊢
      rw [← hk] at w1 w2 kr
      clear hr hv hk h0 h1 c
      go_enter Tryz.func47, Tryz.ntmps47
      go_wp2_with (go_at_call 68; go_loud (with_reducible refine (kr _).mono ?_; rintro r6 w6 ⟨rfl, hb6⟩; have HB6 := Lib.hid hb6; clear hb6))
      go_ret
      exact ⟨rfl, HB6.out⟩
    · rw [decide_eq_false d]
      have w1 : IntKind.u64.wrap n = ((n.natAbs : Nat) : Int) := by
        rw [IntKind.wrap_u64]
        omega
      have kr := fun X => rounded_any false false (w := n.natAbs) (e := 0) (by omega) (by omega) (by omega) X
      rw [agw (n := n.natAbs) (by omega), sgn_f] at kr
      obtain ⟨v, hv⟩ : ∃ v, v = rnd false n.natAbs 0 false := ⟨_, rfl⟩
      obtain ⟨k, hk⟩ : ∃ k, k = n.natAbs := ⟨_, rfl⟩
      rw [← hv] at kr ⊢
      rw [← hk] at w1 kr
      clear hr hv hk h0 h1 c
      go_enter Tryz.func47, Tryz.ntmps47
      go_wp2_with (go_at_call 68; go_loud (with_reducible refine (kr _).mono ?_; rintro r6 w6 ⟨rfl, hb6⟩; have HB6 := Lib.hid hb6; clear hb6))
      go_ret
      exact ⟨rfl, HB6.out⟩

set_option maxHeartbeats 8000000 in
set_option maxRecDepth 100000 in
theorem rfloor_any {a : Nat} (ha : a < 2 * signB) : Grew 51 #[.int .u64 ((a : Nat) : Int)] (.int .u64 ((ffloor a : Nat) : Int)) := by
  intro W
  rw [ffloor_eq ha]
  have hR : rFloor a = if isN a then nanB else if a % signB = infB ∨ a % signB = 0 then a else if 0 ≤ takenE (a % signB) then a else if floorN (decide (signB ≤ a)) (takenM (a % signB)) (-takenE (a % signB)).toNat = 0 then 0 else rnd (decide (signB ≤ a)) (floorN (decide (signB ≤ a)) (takenM (a % signB)) (-takenE (a % signB)).toNat) 0 false := rfl
  have kn := (risnan_any ha).grew
  have ka := (taken_any ha).grew
  have fS := sgn_of ha
  have fX : bits .andNot .u64 ((a : Nat) : Int) 9223372036854775808 = ((a % 9223372036854775808 : Nat) : Int) := andNot_sign a (by unfold signB at ha; omega)
  have hnn := isN_iff a
  obtain ⟨v, hv⟩ : ∃ v, v = rFloor a := ⟨_, rfl⟩
  rw [← hv] at hR ⊢
  obtain ⟨s, hs⟩ : ∃ s, s = decide (signB ≤ a) := ⟨_, rfl⟩
  rw [← hs] at fS hR
  obtain ⟨x, hxx⟩ : ∃ x, x = a % signB := ⟨_, rfl⟩
  rw [← hxx] at hR ka hnn
  unfold signB at hxx
  rw [← hxx] at fX
  clear hs hv hxx
  have I0 : infB = 9218868437227405312 := rfl
  rw [I0] at hR hnn
  clear I0
  obtain ⟨N, hN⟩ : ∃ N, N = isN a := ⟨_, rfl⟩
  rw [← hN] at kn hR hnn
  clear hN
  obtain ⟨X, hX⟩ : ∃ X : Int, X = ((x : Nat) : Int) := ⟨_, rfl⟩
  rw [← hX] at fX
  cases N with
  | true =>
    rw [if_pos rfl] at hR
    clear hX hnn ka fS fX ha
    go_enter Tryz.func51, Tryz.ntmps51
    go_wp2_with (first | (go_at_call 52; refine (kn _).mono ?_; rintro r1 w1 ⟨rfl, hb1⟩; have HB1 := Lib.hid hb1; clear hb1) | (go_at_call 53; refine (ka _).mono ?_; rintro r2 w2 ⟨rfl, hb2⟩; have HB2 := Lib.hid (grow_to HB1.out hb2); clear hb2) | (go_at_call 68; go_loud (with_reducible refine (kr _).mono ?_; rintro r6 w6 ⟨rfl, hb6⟩; have HB6 := Lib.hid (grow_to HB2.out hb6); clear hb6)))
    go_ret
    exact ⟨by first | rfl | (rw [hR]; rfl), HB1.out⟩
  | false =>
    rw [if_neg (by decide)] at hR
    have hxn : ¬ 9218868437227405312 < x := fun h => nomatch hnn.2 h
    clear hnn
    by_cases c1 : x = 9218868437227405312
    · rw [if_pos (.inl c1)] at hR
      have t1 : X = 9218868437227405312 := by omega
      rw [t1] at fX
      clear hX ka fS ha hxn c1 t1
      go_enter Tryz.func51, Tryz.ntmps51
      go_wp2_with (first | (go_at_call 52; refine (kn _).mono ?_; rintro r1 w1 ⟨rfl, hb1⟩; have HB1 := Lib.hid hb1; clear hb1) | (go_at_call 53; refine (ka _).mono ?_; rintro r2 w2 ⟨rfl, hb2⟩; have HB2 := Lib.hid (grow_to HB1.out hb2); clear hb2) | (go_at_call 68; go_loud (with_reducible refine (kr _).mono ?_; rintro r6 w6 ⟨rfl, hb6⟩; have HB6 := Lib.hid (grow_to HB2.out hb6); clear hb6)))
      go_ret
      exact ⟨by first | rfl | (rw [hR]; rfl), HB1.out⟩
    have t1 : (X == 9218868437227405312) = false := beq_eq_false_iff_ne.2 (by omega)
    by_cases c2 : x = 0
    · rw [if_pos (.inr c2)] at hR
      have t2 : X = 0 := by omega
      rw [t2] at fX t1
      clear hX ka fS ha hxn c1 c2 t2
      go_enter Tryz.func51, Tryz.ntmps51
      go_wp2_with (first | (go_at_call 52; refine (kn _).mono ?_; rintro r1 w1 ⟨rfl, hb1⟩; have HB1 := Lib.hid hb1; clear hb1) | (go_at_call 53; refine (ka _).mono ?_; rintro r2 w2 ⟨rfl, hb2⟩; have HB2 := Lib.hid (grow_to HB1.out hb2); clear hb2) | (go_at_call 68; go_loud (with_reducible refine (kr _).mono ?_; rintro r6 w6 ⟨rfl, hb6⟩; have HB6 := Lib.hid (grow_to HB2.out hb6); clear hb6)))
      go_ret
      exact ⟨by first | rfl | (rw [hR]; rfl), HB1.out⟩
    have t2 : (X == 0) = false := beq_eq_false_iff_ne.2 (by omega)
    rw [if_neg (by omega)] at hR
    have hm1 := @taken_lt x
    have hm0 := takenM_pos c2
    have he0 := takenE_ge x
    obtain ⟨m, hm⟩ : ∃ m, m = takenM x := ⟨_, rfl⟩
    obtain ⟨e, he⟩ : ∃ e, e = takenE x := ⟨_, rfl⟩
    rw [← hm] at ka hR hm1 hm0
    rw [← he] at ka hR he0
    clear hm he hX c1 c2 hxn
    by_cases c3 : 0 ≤ e
    · rw [if_pos c3] at hR
      clear fS ha hm1 hm0 he0
      go_enter Tryz.func51, Tryz.ntmps51
      go_wp2_with (first | (go_at_call 52; refine (kn _).mono ?_; rintro r1 w1 ⟨rfl, hb1⟩; have HB1 := Lib.hid hb1; clear hb1) | (go_at_call 53; refine (ka _).mono ?_; rintro r2 w2 ⟨rfl, hb2⟩; have HB2 := Lib.hid (grow_to HB1.out hb2); clear hb2) | (go_at_call 68; go_loud (with_reducible refine (kr _).mono ?_; rintro r6 w6 ⟨rfl, hb6⟩; have HB6 := Lib.hid (grow_to HB2.out hb6); clear hb6)))
      go_ret
      exact ⟨by first | rfl | (rw [hR]; rfl), HB2.out⟩
    rw [if_neg c3] at hR
    obtain ⟨k, hk⟩ : ∃ k, k = (-e).toNat := ⟨_, rfl⟩
    have hke : e = -((k : Nat) : Int) := by omega
    rw [← hk] at hR
    have w1 : IntKind.i64.wrap (-e) = ((k : Nat) : Int) := by
      rw [IntKind.wrap_i64]
      omega
    have HK := Lib.hid hke
    have kr0 := fun (n : Nat) (hn : n < 18446744073709551616) X => rounded_any s false (w := n) (e := 0) (by omega) (by omega) (by omega) X
    by_cases c4 : -64 < e
    · have hk64 : k < 64 := by omega
      have f1 := shr_fact m k
      have hqm : m / 2 ^ k * 2 ^ k ≤ m := Nat.div_mul_le_self m (2 ^ k)
      have hq1 : m / 2 ^ k ≤ m := Nat.div_le_self _ _
      have hdm : m / 2 ^ k * 2 ^ k + m % 2 ^ k = m := by rw [Nat.mul_comm]; exact Nat.div_add_mod m (2 ^ k)
      have f2 := shl_fact (m / 2 ^ k) k
      rw [Nat.mod_eq_of_lt (show m / 2 ^ k * 2 ^ k < 18446744073709551616 by omega)] at f2
      have hF : floorN s m k = m / 2 ^ k + (if s = true ∧ m % 2 ^ k ≠ 0 then 1 else 0) := rfl
      rw [hF] at hR
      clear hF
      obtain ⟨q, hq⟩ : ∃ q, q = m / 2 ^ k := ⟨_, rfl⟩
      obtain ⟨rm, hrm⟩ : ∃ rm, rm = m % 2 ^ k := ⟨_, rfl⟩
      rw [← hq] at f1 f2 hqm hq1 hdm hR
      rw [← hrm] at hdm hR
      obtain ⟨u, hu⟩ : ∃ u, u = q * 2 ^ k := ⟨_, rfl⟩
      rw [← hu] at f2 hqm hdm
      have hmI : m < 9007199254740992 := hm1
      clear hq hrm he0 hk hm1
      have e2 : ((k : Nat) : Int).toNat = k := Int.toNat_natCast k

      cases s with
      | true =>
        rw [sgn_t] at fS
        by_cases cr : rm = 0
        · have tr : (((u : Nat) : Int) != ((m : Nat) : Int)) = false := bne_eq_false_iff_eq.2 (by omega)
          have hbb : (if true = true ∧ rm ≠ 0 then 1 else 0) = 0 := if_neg (by simp [cr])
          rw [hbb, Nat.add_zero] at hR
          by_cases cz : q = 0
          · exfalso
            rw [cz, Nat.zero_mul] at hu
            omega
          · rw [if_neg cz] at hR
            have kr := kr0 q (by omega)
            rw [agw (n := q) (by omega), sgn_t] at kr
            obtain ⟨vv, hvv⟩ : ∃ z, z = rnd true q 0 false := ⟨_, rfl⟩
            rw [← hvv] at kr hR
            have tz : (((q : Nat) : Int) == 0) = false := beq_eq_false_iff_ne.2 (by omega)
            clear kr0 ha hdm hqm hq1 hmI hke hvv cz hu hm0
            go_enter Tryz.func51, Tryz.ntmps51
            go_wp2_with (first | (go_at_call 52; refine (kn _).mono ?_; rintro r1 w1 ⟨rfl, hb1⟩; have HB1 := Lib.hid hb1; clear hb1) | (go_at_call 53; refine (ka _).mono ?_; rintro r2 w2 ⟨rfl, hb2⟩; have HB2 := Lib.hid (grow_to HB1.out hb2); clear hb2) | (go_at_call 68; go_loud (with_reducible refine (kr _).mono ?_; rintro r6 w6 ⟨rfl, hb6⟩; have HB6 := Lib.hid (grow_to HB2.out hb6); clear hb6)))
            go_ret
            exact ⟨by first | rfl | (rw [hR]; rfl), HB6.out⟩
        · have tr : (((u : Nat) : Int) != ((m : Nat) : Int)) = true := bne_iff_ne.2 (by omega)
          have hbb : (if true = true ∧ rm ≠ 0 then 1 else 0) = 1 := if_pos ⟨rfl, cr⟩
          rw [hbb, if_neg (by omega)] at hR
          have wq : IntKind.u64.wrap (((q : Nat) : Int) + 1) = ((q + 1 : Nat) : Int) := by
            rw [IntKind.wrap_u64]
            omega
          have kr := kr0 (q + 1) (by omega)
          rw [agw (n := (q + 1)) (by omega), sgn_t] at kr
          obtain ⟨vv, hvv⟩ : ∃ z, z = rnd true (q + 1) 0 false := ⟨_, rfl⟩
          rw [← hvv] at kr hR
          have tz : ((((q + 1) : Nat) : Int) == 0) = false := beq_eq_false_iff_ne.2 (by omega)
          obtain ⟨q1, hq1'⟩ : ∃ z, z = q + 1 := ⟨_, rfl⟩
          rw [← hq1'] at wq kr tz
          clear kr0 ha hdm hqm hq1 hmI hke hvv hq1' hu hm0
          go_enter Tryz.func51, Tryz.ntmps51
          go_wp2_with (first | (go_at_call 52; refine (kn _).mono ?_; rintro r1 w1 ⟨rfl, hb1⟩; have HB1 := Lib.hid hb1; clear hb1) | (go_at_call 53; refine (ka _).mono ?_; rintro r2 w2 ⟨rfl, hb2⟩; have HB2 := Lib.hid (grow_to HB1.out hb2); clear hb2) | (go_at_call 68; go_loud (with_reducible refine (kr _).mono ?_; rintro r6 w6 ⟨rfl, hb6⟩; have HB6 := Lib.hid (grow_to HB2.out hb6); clear hb6)))
          go_ret
          exact ⟨by first | rfl | (rw [hR]; rfl), HB6.out⟩
      | false =>
        rw [sgn_f] at fS
        have hbb : (if false = true ∧ rm ≠ 0 then 1 else 0) = 0 := if_neg (by simp)
        rw [hbb, Nat.add_zero] at hR
        by_cases cz : q = 0
        · rw [if_pos cz] at hR
          rw [cz] at f1 f2
          rw [show ((0 : Nat) : Int) = 0 from rfl] at f1 f2
          clear kr0 ha hdm hqm hq1 hmI hke hu hm0
          go_enter Tryz.func51, Tryz.ntmps51
          go_wp2_with (first | (go_at_call 52; refine (kn _).mono ?_; rintro r1 w1 ⟨rfl, hb1⟩; have HB1 := Lib.hid hb1; clear hb1) | (go_at_call 53; refine (ka _).mono ?_; rintro r2 w2 ⟨rfl, hb2⟩; have HB2 := Lib.hid (grow_to HB1.out hb2); clear hb2) | (go_at_call 68; go_loud (with_reducible refine (kr _).mono ?_; rintro r6 w6 ⟨rfl, hb6⟩; have HB6 := Lib.hid (grow_to HB2.out hb6); clear hb6)))
          go_ret
          exact ⟨by first | rfl | (rw [hR]; rfl), HB2.out⟩
        · rw [if_neg cz] at hR
          have kr := kr0 q (by omega)
          rw [agw (n := q) (by omega), sgn_f] at kr
          obtain ⟨vv, hvv⟩ : ∃ z, z = rnd false q 0 false := ⟨_, rfl⟩
          rw [← hvv] at kr hR
          have tz : (((q : Nat) : Int) == 0) = false := beq_eq_false_iff_ne.2 (by omega)
          clear kr0 ha hdm hqm hq1 hmI hke hvv cz hu hm0
          go_enter Tryz.func51, Tryz.ntmps51
          go_wp2_with (first | (go_at_call 52; refine (kn _).mono ?_; rintro r1 w1 ⟨rfl, hb1⟩; have HB1 := Lib.hid hb1; clear hb1) | (go_at_call 53; refine (ka _).mono ?_; rintro r2 w2 ⟨rfl, hb2⟩; have HB2 := Lib.hid (grow_to HB1.out hb2); clear hb2) | (go_at_call 68; go_loud (with_reducible refine (kr _).mono ?_; rintro r6 w6 ⟨rfl, hb6⟩; have HB6 := Lib.hid (grow_to HB2.out hb6); clear hb6)))
          go_ret
          exact ⟨by first | rfl | (rw [hR]; rfl), HB6.out⟩
    · have hk64 : 64 ≤ k := by omega
      have hmk : m < 2 ^ k := Nat.lt_of_lt_of_le hm1 (Nat.le_trans (by decide) (Nat.pow_le_pow_right (by decide) hk64))
      have hF : floorN s m k = m / 2 ^ k + (if s = true ∧ m % 2 ^ k ≠ 0 then 1 else 0) := rfl
      rw [hF, Nat.div_eq_of_lt hmk, Nat.mod_eq_of_lt hmk] at hR
      clear hF hmk
      cases s with
      | true =>
        rw [sgn_t] at fS
        have hbb : (if true = true ∧ m ≠ 0 then 1 else 0) = 1 := if_pos ⟨rfl, by omega⟩
        rw [hbb, if_neg (by decide)] at hR
        have kr := kr0 1 (by decide)
        rw [show wv 1 = .agg #[.int .u64 0, .int .u64 1] from rfl, sgn_t] at kr
        rw [Nat.zero_add] at hR
        obtain ⟨vv, hvv⟩ : ∃ z, z = rnd true 1 0 false := ⟨_, rfl⟩
        rw [← hvv] at kr hR
        clear kr0 ha hk64 hke hvv he0 hk hm1 hm0
        go_enter Tryz.func51, Tryz.ntmps51
        go_wp2_with (first | (go_at_call 52; refine (kn _).mono ?_; rintro r1 w1 ⟨rfl, hb1⟩; have HB1 := Lib.hid hb1; clear hb1) | (go_at_call 53; refine (ka _).mono ?_; rintro r2 w2 ⟨rfl, hb2⟩; have HB2 := Lib.hid (grow_to HB1.out hb2); clear hb2) | (go_at_call 68; go_loud (with_reducible refine (kr _).mono ?_; rintro r6 w6 ⟨rfl, hb6⟩; have HB6 := Lib.hid (grow_to HB2.out hb6); clear hb6)))
        go_ret
        exact ⟨by first | rfl | (rw [hR]; rfl), HB6.out⟩
      | false =>
        rw [sgn_f] at fS
        have hbb : (if false = true ∧ m ≠ 0 then 1 else 0) = 0 := if_neg (by simp)
        rw [hbb, if_pos (by rfl)] at hR
        clear kr0 ha hk64 hke he0 hk hm1 hm0
        go_enter Tryz.func51, Tryz.ntmps51
        go_wp2_with (first | (go_at_call 52; refine (kn _).mono ?_; rintro r1 w1 ⟨rfl, hb1⟩; have HB1 := Lib.hid hb1; clear hb1) | (go_at_call 53; refine (ka _).mono ?_; rintro r2 w2 ⟨rfl, hb2⟩; have HB2 := Lib.hid (grow_to HB1.out hb2); clear hb2) | (go_at_call 68; go_loud (with_reducible refine (kr _).mono ?_; rintro r6 w6 ⟨rfl, hb6⟩; have HB6 := Lib.hid (grow_to HB2.out hb6); clear hb6)))
        go_ret
        exact ⟨by first | rfl | (rw [hR]; rfl), HB2.out⟩
end Go.Proofs.YtjloiclbknfomaaGreatDoor
