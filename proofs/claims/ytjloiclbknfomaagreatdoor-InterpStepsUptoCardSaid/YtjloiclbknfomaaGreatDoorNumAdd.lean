/- The document's sums and differences (contracts). -/
import Derived.Test.YtjloiclbknfomaaGreatDoorNumRefs2
import Derived.Test.YtjloiclbknfomaaGreatDoorWd
import Derived.Test.YtjloiclbknfomaaGreatDoorFl
set_option maxRecDepth 100000
namespace Go.Proofs.YtjloiclbknfomaaGreatDoor
open Go.RowKit

/-- a call that answers v; of what was there nothing has turned -/
abbrev Grew (f : FuncId) (args : Array Value) (v : Value) : Prop := ∀ w : World, Calls Tryz.prog f args w fun e w' => e = .returned v ∧ Below w.heap.size w w'
theorem Told.grew {f : FuncId} {args : Array Value} {v : Value} (h : Told f args v) : Grew f args v := fun w => (h w).mono fun _ _ ⟨he, n, hw⟩ => ⟨he, by rw [hw]; exact below_drewN (Below.refl _ _) n⟩
theorem sgn_of {a : Nat} (ha : a < 2 * signB) : bits .and .u64 ((a : Nat) : Int) 9223372036854775808 = ((sgn (decide (signB ≤ a)) : Nat) : Int) := by
  have h := and_sign ha
  rw [h]
  unfold sgn signB
  by_cases c : 9223372036854775808 ≤ a
  · rw [if_pos c, decide_eq_true c]; rfl
  · rw [if_neg c, decide_eq_false c]; rfl
theorem sgn_eq (s t : Bool) : (((sgn s : Nat) : Int) = ((sgn t : Nat) : Int)) ↔ s = t := by
  cases s <;> cases t <;> decide
theorem agw {n : Nat} (h : n < 18446744073709551616) : wv n = .agg #[.int .u64 0, .int .u64 ((n : Nat) : Int)] := by
  rw [wv_is, show (((n : Nat) : Int) / 18446744073709551616) = 0 from by omega, show (((n : Nat) : Int) % 18446744073709551616) = ((n : Nat) : Int) from by omega]

set_option maxHeartbeats 8000000 in
set_option maxRecDepth 100000 in
theorem radd_main {a b : Nat} (ha : a < 2 * signB) (hb : b < 2 * signB) (hx : a % signB < infB) (hy0 : b % signB ≠ 0) (hxy : b % signB ≤ a % signB) :
    Grew 40 #[.int .u64 ((a : Nat) : Int), .int .u64 ((b : Nat) : Int)] (.int .u64 ((sum2 (decide (signB ≤ a)) (decide (signB ≤ b)) (a % signB) (b % signB) : Nat) : Int)) := by
  intro W
  have fX : bits .andNot .u64 ((a : Nat) : Int) 9223372036854775808 = ((a % 9223372036854775808 : Nat) : Int) := andNot_sign a (by unfold signB at ha; omega)
  have fY : bits .andNot .u64 ((b : Nat) : Int) 9223372036854775808 = ((b % 9223372036854775808 : Nat) : Int) := andNot_sign b (by unfold signB at hb; omega)
  have fA := sgn_of ha
  have fB := sgn_of hb
  have ka := (taken_any ha).grew
  have kb := (taken_any hb).grew
  have hw := (word_of ha).1
  obtain ⟨s, hs⟩ : ∃ s, s = decide (signB ≤ a) := ⟨_, rfl⟩
  obtain ⟨t, ht⟩ : ∃ t, t = decide (signB ≤ b) := ⟨_, rfl⟩
  rw [← hs] at fA hw ⊢
  rw [← ht] at fB ⊢
  obtain ⟨x, hxx⟩ : ∃ x, x = a % signB := ⟨_, rfl⟩
  obtain ⟨y, hyy⟩ : ∃ y, y = b % signB := ⟨_, rfl⟩
  rw [← hxx] at hx hxy ka hw ⊢
  rw [← hyy] at hy0 hxy kb ⊢
  unfold signB at hxx hyy
  rw [← hxx] at fX
  rw [← hyy] at fY
  have hy : y < infB := Nat.lt_of_le_of_lt hxy hx
  have hmn := @taken_lt x
  have hnn := @taken_lt y
  have he0 := takenE_ge x
  have hf0 := takenE_ge y
  have he1 := takenE_le hx
  have hf1 := takenE_le hy
  have hef := takenE_mono hxy
  have hbound := fun d => @sum_bound x y d
  have hmono := fun d => @taken_mono x y d
  have hm0 := takenM_pos hy0
  have HS : Hid (sum2 s t x y = if 64 < takenE x - takenE y then D.word s x else if s = t then rnd s (takenM x * 2 ^ (takenE x - takenE y).toNat + takenM y) (takenE y) false else if x = y then 0 else rnd s (takenM x * 2 ^ (takenE x - takenE y).toNat - takenM y) (takenE y) false) := rfl
  obtain ⟨m, hm⟩ : ∃ m, m = takenM x := ⟨_, rfl⟩
  obtain ⟨n, hn⟩ : ∃ n, n = takenM y := ⟨_, rfl⟩
  obtain ⟨e, he⟩ : ∃ e, e = takenE x := ⟨_, rfl⟩
  obtain ⟨f, hf⟩ : ∃ f, f = takenE y := ⟨_, rfl⟩
  rw [← hm] at ka hmn hbound hmono HS
  rw [← hn] at kb hnn hbound hmono hm0 HS
  rw [← he] at ka he0 he1 hef hmono HS
  rw [← hf] at kb hf0 hf1 hef hmono HS
  clear hm hn he hf hs ht hxx hyy
  have t1 : ¬ (9218868437227405312 : Int) < ((x : Nat) : Int) := by unfold infB at hx; omega
  have t2 : ¬ (9218868437227405312 : Int) < ((y : Nat) : Int) := by unfold infB at hy; omega
  have t3 : (((x : Nat) : Int) == 9218868437227405312) = false := beq_eq_false_iff_ne.2 (by unfold infB at hx; omega)
  have t4 : (((y : Nat) : Int) == 9218868437227405312) = false := beq_eq_false_iff_ne.2 (by unfold infB at hy; omega)
  have t5 : (((x : Nat) : Int) == 0) = false := beq_eq_false_iff_ne.2 (by omega)
  have t6 : (((y : Nat) : Int) == 0) = false := beq_eq_false_iff_ne.2 (by omega)
  have t7 : ¬ ((x : Nat) : Int) < ((y : Nat) : Int) := by omega
  have w1 : IntKind.i64.wrap (e - f) = e - f := by
    rw [IntKind.wrap_i64]
    omega
  obtain ⟨X, hX⟩ : ∃ X : Int, X = ((x : Nat) : Int) := ⟨_, rfl⟩
  obtain ⟨Y, hY⟩ : ∃ Y : Int, Y = ((y : Nat) : Int) := ⟨_, rfl⟩
  rw [← hX] at fX t1 t3 t5 t7
  rw [← hY] at fY t2 t4 t6 t7
  have HX := Lib.hid hX
  have HY := Lib.hid hY
  clear hX hY
  obtain ⟨S, hS⟩ : ∃ S : Int, S = ((sgn s : Nat) : Int) := ⟨_, rfl⟩
  obtain ⟨U, hU⟩ : ∃ U : Int, U = ((sgn t : Nat) : Int) := ⟨_, rfl⟩
  have hST := sgn_eq s t
  rw [← hS] at fA hST
  rw [← hU] at fB hST
  by_cases c1 : 64 < e - f
  · have HV : Hid (sum2 s t x y = a) := by
      have h := HS.out
      rw [if_pos c1, ← hw] at h
      exact h
    clear hw hx hy hxy hy0 hmn hnn he0 he1 hf0 hf1 hef hbound hmono hm0 hS hU hST
    go_enter Tryz.func40, Tryz.ntmps40
    go_wp2_with (first | (go_at_call 53; first | (with_reducible (refine (ka _).mono ?_); rintro r1 w1 ⟨rfl, hb1⟩; have HB1 := Lib.hid hb1; clear hb1) | (with_reducible (refine (kb _).mono ?_); rintro r2 w2 ⟨rfl, hb2⟩; have HB2 := Lib.hid (grow_to HB1.out hb2); clear hb2)) | (go_at_call 67; go_loud (refine (kl _).mono ?_; rintro r3 w3 ⟨rfl, hb3⟩; have q3 := Cells.keep (Cells.new w2 111 #[.int .u64 0, .int .u64 M]) hb3; have z0 := Cells.fz q3 0; have z1 := Cells.fz q3 1; have c0 := Cells.cell q3 (j := 0) rfl; have c1 := Cells.cell q3 (j := 1) rfl; have hl3 := Cells.lt q3; have HB3 := Lib.hid (grow_to (bel_alloc HB2.out _) hb3); have hs2 := HB2.out.size; clear hb3 q3)) | (go_at_call 69; go_loud (refine (kp _).mono ?_; rintro r4 w4 ⟨rfl, hb4⟩; have HB4 := Lib.hid (grow_to (bel_alloc (bel_store HB3.out hs2 _ _) _) hb4); clear hb4)) | (go_at_call 70; go_loud (refine (kp _).mono ?_; rintro r4 w4 ⟨rfl, hb4⟩; have HB4 := Lib.hid (grow_to (bel_alloc (bel_store HB3.out hs2 _ _) _) hb4); clear hb4)) | (go_at_call 68; go_loud (refine (kr _).mono ?_; rintro r5 w5 ⟨rfl, hb5⟩; have HB5 := Lib.hid (grow_to HB4.out hb5); clear hb5)))
    go_ret
    exact ⟨by rw [HV.out]; rfl, HB2.out⟩
  · obtain ⟨d, hd⟩ : ∃ d, d = (e - f).toNat := ⟨_, rfl⟩
    have hdi : e - f = ((d : Nat) : Int) := by omega
    have hb1 := hbound d (by omega)
    have hlt : m * 2 ^ d < 340282366920938463463374607431768211456 := by
      have : (2 : Nat) ^ 127 < 340282366920938463463374607431768211456 := by decide
      omega
    have kl0 := fun X => wleft_any (n := m) (k := d) (by omega) hlt X
    rw [agw (n := m) (by omega), ← hdi] at kl0
    obtain ⟨u, hu⟩ : ∃ u, u = m * 2 ^ d := ⟨_, rfl⟩
    rw [← hu] at kl0 hlt hb1
    have kl : ∀ Z : World, Calls Tryz.prog 67 #[.agg #[.int .u64 0, .int .u64 ((m : Nat) : Int)], .int .i64 (e - f)] Z fun r Z' => r = .returned (.agg #[.int .u64 (((u : Nat) : Int) / 18446744073709551616), .int .u64 (((u : Nat) : Int) % 18446744073709551616)]) ∧ Below Z.heap.size Z Z' := kl0
    clear kl0
    have H2 := HS.out
    rw [if_neg c1, ← hd, ← hu] at H2
    obtain ⟨M, hM⟩ : ∃ M : Int, M = ((m : Nat) : Int) := ⟨_, rfl⟩
    obtain ⟨N, hN⟩ : ∃ N : Int, N = ((n : Nat) : Int) := ⟨_, rfl⟩
    by_cases c2 : s = t
    · rw [if_pos c2] at H2
      have hp : u + n < 340282366920938463463374607431768211456 := by
        have : (2 : Nat) ^ 127 < 340282366920938463463374607431768211456 := by decide
        omega
      have kp0 := fun X => wplus_any (n := u) (m := n) hp X
      have kr0 := fun X => rounded_any s false (w := u + n) (e := f) hp (by omega) (by omega) X
      rw [agw (n := n) (by omega)] at kp0
      obtain ⟨p, hpp⟩ : ∃ p, p = u + n := ⟨_, rfl⟩
      rw [← hpp] at kp0 kr0 H2
      have hUS : U = S := (hST.2 c2).symm
      rw [hUS] at fB
      rw [← hS] at kr0
      have kp : ∀ Z : World, Calls Tryz.prog 69 #[.agg #[.int .u64 (((u : Nat) : Int) / 18446744073709551616), .int .u64 (((u : Nat) : Int) % 18446744073709551616)], .agg #[.int .u64 0, .int .u64 ((n : Nat) : Int)]] Z fun r Z' => r = .returned (.agg #[.int .u64 (((p : Nat) : Int) / 18446744073709551616), .int .u64 (((p : Nat) : Int) % 18446744073709551616)]) ∧ Below Z.heap.size Z Z' := kp0
      have kr : ∀ Z : World, Calls Tryz.prog 68 #[.int .u64 S, .agg #[.int .u64 (((p : Nat) : Int) / 18446744073709551616), .int .u64 (((p : Nat) : Int) % 18446744073709551616)], .int .i64 f, .bool false] Z fun r Z' => r = .returned (.int .u64 ((rnd s p f false : Nat) : Int)) ∧ Below Z.heap.size Z Z' := kr0
      have HV := Lib.hid H2
      rw [← hM] at ka kl
      rw [← hN] at kb kp
      clear kp0 kr0 hpp hp hw hx hy hxy hy0 hmn hnn he0 he1 hf0 hf1 hef hbound hmono hm0 hS hU hST hM hN hu hlt hb1 hdi hd hUS c2 H2
      go_enter Tryz.func40, Tryz.ntmps40
      go_wp2_with (first | (go_at_call 53; first | (with_reducible (refine (ka _).mono ?_); rintro r1 w1 ⟨rfl, hb1⟩; have HB1 := Lib.hid hb1; clear hb1) | (with_reducible (refine (kb _).mono ?_); rintro r2 w2 ⟨rfl, hb2⟩; have HB2 := Lib.hid (grow_to HB1.out hb2); clear hb2)) | (go_at_call 67; go_loud (refine (kl _).mono ?_; rintro r3 w3 ⟨rfl, hb3⟩; have q3 := Cells.keep (Cells.new w2 111 #[.int .u64 0, .int .u64 M]) hb3; have z0 := Cells.fz q3 0; have z1 := Cells.fz q3 1; have c0 := Cells.cell q3 (j := 0) rfl; have c1 := Cells.cell q3 (j := 1) rfl; have hl3 := Cells.lt q3; have HB3 := Lib.hid (grow_to (bel_alloc HB2.out _) hb3); have hs2 := HB2.out.size; clear hb3 q3)) | (go_at_call 69; go_loud (refine (kp _).mono ?_; rintro r4 w4 ⟨rfl, hb4⟩; have HB4 := Lib.hid (grow_to (bel_alloc (bel_store HB3.out hs2 _ _) _) hb4); clear hb4)) | (go_at_call 70; go_loud (refine (kp _).mono ?_; rintro r4 w4 ⟨rfl, hb4⟩; have HB4 := Lib.hid (grow_to (bel_alloc (bel_store HB3.out hs2 _ _) _) hb4); clear hb4)) | (go_at_call 68; go_loud (refine (kr _).mono ?_; rintro r5 w5 ⟨rfl, hb5⟩; have HB5 := Lib.hid (grow_to HB4.out hb5); clear hb5)))
      go_ret
      exact ⟨by rw [HV.out]; rfl, HB5.out⟩
    · rw [if_neg c2] at H2
      have hUS : (S == U) = false := beq_eq_false_iff_ne.2 fun h => c2 (hST.1 h)
      by_cases c3 : x = y
      · rw [if_pos c3] at H2
        have HV := Lib.hid H2
        have hXY : Y = X := by rw [HX.out, HY.out, c3]
        subst hXY
        rw [← hM] at ka kl
        rw [← hN] at kb
        clear hw hx hy hxy hy0 hmn hnn he0 he1 hf0 hf1 hef hbound hmono hm0 hS hU hST hM hN hu hlt hb1 hdi hd c2 c3 H2
        go_enter Tryz.func40, Tryz.ntmps40
        go_wp2_with (first | (go_at_call 53; first | (with_reducible (refine (ka _).mono ?_); rintro r1 w1 ⟨rfl, hb1⟩; have HB1 := Lib.hid hb1; clear hb1) | (with_reducible (refine (kb _).mono ?_); rintro r2 w2 ⟨rfl, hb2⟩; have HB2 := Lib.hid (grow_to HB1.out hb2); clear hb2)) | (go_at_call 67; go_loud (refine (kl _).mono ?_; rintro r3 w3 ⟨rfl, hb3⟩; have q3 := Cells.keep (Cells.new w2 111 #[.int .u64 0, .int .u64 M]) hb3; have z0 := Cells.fz q3 0; have z1 := Cells.fz q3 1; have c0 := Cells.cell q3 (j := 0) rfl; have c1 := Cells.cell q3 (j := 1) rfl; have hl3 := Cells.lt q3; have HB3 := Lib.hid (grow_to (bel_alloc HB2.out _) hb3); have hs2 := HB2.out.size; clear hb3 q3)) | (go_at_call 69; go_loud (refine (kp _).mono ?_; rintro r4 w4 ⟨rfl, hb4⟩; have HB4 := Lib.hid (grow_to (bel_alloc (bel_store HB3.out hs2 _ _) _) hb4); clear hb4)) | (go_at_call 70; go_loud (refine (kp _).mono ?_; rintro r4 w4 ⟨rfl, hb4⟩; have HB4 := Lib.hid (grow_to (bel_alloc (bel_store HB3.out hs2 _ _) _) hb4); clear hb4)) | (go_at_call 68; go_loud (refine (kr _).mono ?_; rintro r5 w5 ⟨rfl, hb5⟩; have HB5 := Lib.hid (grow_to HB4.out hb5); clear hb5)))
        go_ret
        exact ⟨by rw [HV.out]; rfl, bel_alloc (bel_store HB3.out hs2 _ _) _⟩
      · rw [if_neg c3] at H2
        have hXY : (X == Y) = false := beq_eq_false_iff_ne.2 fun h => c3 (by rw [HX.out, HY.out] at h; omega)
        have hnu : n ≤ u := by
          have h := hmono d (by omega) hdi
          rw [hu]
          exact Nat.le_of_lt h
        have kp0 := fun X => wminus_any (n := u) (m := n) hnu hlt X
        have kr0 := fun X => rounded_any s false (w := u - n) (e := f) (by omega) (by omega) (by omega) X
        rw [agw (n := n) (by omega)] at kp0
        obtain ⟨p, hpp⟩ : ∃ p, p = u - n := ⟨_, rfl⟩
        rw [← hpp] at kp0 kr0 H2
        rw [← hS] at kr0
        have kp : ∀ Z : World, Calls Tryz.prog 70 #[.agg #[.int .u64 (((u : Nat) : Int) / 18446744073709551616), .int .u64 (((u : Nat) : Int) % 18446744073709551616)], .agg #[.int .u64 0, .int .u64 ((n : Nat) : Int)]] Z fun r Z' => r = .returned (.agg #[.int .u64 (((p : Nat) : Int) / 18446744073709551616), .int .u64 (((p : Nat) : Int) % 18446744073709551616)]) ∧ Below Z.heap.size Z Z' := kp0
        have kr : ∀ Z : World, Calls Tryz.prog 68 #[.int .u64 S, .agg #[.int .u64 (((p : Nat) : Int) / 18446744073709551616), .int .u64 (((p : Nat) : Int) % 18446744073709551616)], .int .i64 f, .bool false] Z fun r Z' => r = .returned (.int .u64 ((rnd s p f false : Nat) : Int)) ∧ Below Z.heap.size Z Z' := kr0
        have HV := Lib.hid H2
        rw [← hM] at ka kl
        rw [← hN] at kb kp
        clear kp0 kr0 hpp hnu hw hx hy hxy hy0 hmn hnn he0 he1 hf0 hf1 hef hbound hmono hm0 hS hU hST hM hN hu hlt hb1 hdi hd c2 c3 H2
        go_enter Tryz.func40, Tryz.ntmps40
        go_wp2_with (first | (go_at_call 53; first | (with_reducible (refine (ka _).mono ?_); rintro r1 w1 ⟨rfl, hb1⟩; have HB1 := Lib.hid hb1; clear hb1) | (with_reducible (refine (kb _).mono ?_); rintro r2 w2 ⟨rfl, hb2⟩; have HB2 := Lib.hid (grow_to HB1.out hb2); clear hb2)) | (go_at_call 67; go_loud (refine (kl _).mono ?_; rintro r3 w3 ⟨rfl, hb3⟩; have q3 := Cells.keep (Cells.new w2 111 #[.int .u64 0, .int .u64 M]) hb3; have z0 := Cells.fz q3 0; have z1 := Cells.fz q3 1; have c0 := Cells.cell q3 (j := 0) rfl; have c1 := Cells.cell q3 (j := 1) rfl; have hl3 := Cells.lt q3; have HB3 := Lib.hid (grow_to (bel_alloc HB2.out _) hb3); have hs2 := HB2.out.size; clear hb3 q3)) | (go_at_call 69; go_loud (refine (kp _).mono ?_; rintro r4 w4 ⟨rfl, hb4⟩; have HB4 := Lib.hid (grow_to (bel_alloc (bel_store HB3.out hs2 _ _) _) hb4); clear hb4)) | (go_at_call 70; go_loud (refine (kp _).mono ?_; rintro r4 w4 ⟨rfl, hb4⟩; have HB4 := Lib.hid (grow_to (bel_alloc (bel_store HB3.out hs2 _ _) _) hb4); clear hb4)) | (go_at_call 68; go_loud (refine (kr _).mono ?_; rintro r5 w5 ⟨rfl, hb5⟩; have HB5 := Lib.hid (grow_to HB4.out hb5); clear hb5)))
        go_ret
        exact ⟨by rw [HV.out]; rfl, HB5.out⟩

theorem and_signs {a b : Nat} (ha : a < 2 * signB) (hb : b < 2 * signB) (hx : a % signB = 0) (hy : b % signB = 0) : bits .and .u64 ((a : Nat) : Int) ((b : Nat) : Int) = (((if signB ≤ a ∧ signB ≤ b then signB else 0 : Nat)) : Int) := by
  unfold signB at *
  have h := u64_and_nat a b (by omega) (by omega)
  rw [h]
  rcases (show a = 0 ∨ a = 9223372036854775808 by omega) with rfl | rfl <;> rcases (show b = 0 ∨ b = 9223372036854775808 by omega) with rfl | rfl <;> rfl
set_option maxHeartbeats 8000000 in
set_option maxRecDepth 100000 in
theorem radd_any {a b : Nat} (ha : a < 2 * signB) (hb : b < 2 * signB) : Grew 40 #[.int .u64 ((a : Nat) : Int), .int .u64 ((b : Nat) : Int)] (.int .u64 ((fadd a b : Nat) : Int)) := by
  intro W
  rw [fadd_eq ha hb]
  have m1 := fun h1 h2 h3 => radd_main ha hb h1 h2 h3 W
  have m2 := fun h1 h2 h3 => radd_main hb ha h1 h2 h3
  have hz := and_signs ha hb
  have hR : rAdd a b = if infB < a % signB ∨ infB < b % signB ∨ (a % signB = infB ∧ b % signB = infB ∧ a ≠ b) then nanB else if a % signB = infB then a else if b % signB = infB then b else if a % signB = 0 ∧ b % signB = 0 then (if signB ≤ a ∧ signB ≤ b then signB else 0) else if a % signB = 0 then b else if b % signB = 0 then a else if a % signB < b % signB then sum2 (decide (signB ≤ b)) (decide (signB ≤ a)) (b % signB) (a % signB) else sum2 (decide (signB ≤ a)) (decide (signB ≤ b)) (a % signB) (b % signB) := rfl
  have fX : bits .andNot .u64 ((a : Nat) : Int) 9223372036854775808 = ((a % 9223372036854775808 : Nat) : Int) := andNot_sign a (by unfold signB at ha; omega)
  have fY : bits .andNot .u64 ((b : Nat) : Int) 9223372036854775808 = ((b % 9223372036854775808 : Nat) : Int) := andNot_sign b (by unfold signB at hb; omega)
  obtain ⟨x, hxx⟩ : ∃ x, x = a % signB := ⟨_, rfl⟩
  obtain ⟨y, hyy⟩ : ∃ y, y = b % signB := ⟨_, rfl⟩
  obtain ⟨s1, hs1⟩ : ∃ v, v = sum2 (decide (signB ≤ a)) (decide (signB ≤ b)) (a % signB) (b % signB) := ⟨_, rfl⟩
  obtain ⟨s2, hs2⟩ : ∃ v, v = sum2 (decide (signB ≤ b)) (decide (signB ≤ a)) (b % signB) (a % signB) := ⟨_, rfl⟩
  rw [← hs1] at m1 hR
  rw [← hs2] at m2 hR
  clear hs1 hs2
  obtain ⟨z, hzz⟩ : ∃ z, z = if signB ≤ a ∧ signB ≤ b then signB else 0 := ⟨_, rfl⟩
  rw [← hzz] at hz hR
  rw [← hxx, ← hyy] at hR
  rw [← hxx, ← hyy] at hz m1 m2
  unfold signB at hxx hyy
  rw [← hxx] at fX
  rw [← hyy] at fY
  clear hxx hyy hzz
  have I0 : infB = 9218868437227405312 := rfl
  rw [I0] at hR m1 m2
  clear I0
  obtain ⟨v, hv⟩ : ∃ v, v = rAdd a b := ⟨_, rfl⟩
  rw [← hv] at hR ⊢
  clear hv
  obtain ⟨X, hX⟩ : ∃ X : Int, X = ((x : Nat) : Int) := ⟨_, rfl⟩
  obtain ⟨Y, hY⟩ : ∃ Y : Int, Y = ((y : Nat) : Int) := ⟨_, rfl⟩
  rw [← hX] at fX
  rw [← hY] at fY

  by_cases c1 : 9218868437227405312 < x
  · rw [if_pos (.inl c1)] at hR
    have t1 : (9218868437227405312 : Int) < X := by omega
    clear hX hY m1 m2 hz ha hb c1
    go_enter Tryz.func40, Tryz.ntmps40
    go_wp2
    go_ret
    exact ⟨by first | rfl | (rw [hR]; rfl), Below.refl _ _⟩
  have t1 : ¬ (9218868437227405312 : Int) < X := by omega
  by_cases c2 : 9218868437227405312 < y
  · rw [if_pos (.inr (.inl c2))] at hR
    have t2 : (9218868437227405312 : Int) < Y := by omega
    clear hX hY m1 m2 hz ha hb c1 c2
    go_enter Tryz.func40, Tryz.ntmps40
    go_wp2
    go_ret
    exact ⟨by first | rfl | (rw [hR]; rfl), Below.refl _ _⟩
  have t2 : ¬ (9218868437227405312 : Int) < Y := by omega
  by_cases c3 : x = 9218868437227405312
  · have t3 : X = 9218868437227405312 := by omega
    by_cases c4 : y = 9218868437227405312 ∧ a ≠ b
    · rw [if_pos (.inr (.inr ⟨c3, c4.1, c4.2⟩))] at hR
      have t4 : Y = 9218868437227405312 := by omega
      have t5 : (((a : Nat) : Int) == ((b : Nat) : Int)) = false := beq_eq_false_iff_ne.2 (by have := c4.2; omega)
      subst t3 t4
      clear m1 m2 hz ha hb c1 c2 c3 c4
      go_enter Tryz.func40, Tryz.ntmps40
      go_wp2
      go_ret
      exact ⟨by first | rfl | (rw [hR]; rfl), Below.refl _ _⟩
    · rw [if_neg (by omega), if_pos c3] at hR
      by_cases c5 : y = 9218868437227405312
      · have t4 : Y = 9218868437227405312 := by omega
        have t5 : b = a := by omega
        subst t5
        rw [t3] at fX t1
        rw [t4] at fY t2
        clear hX hY m1 m2 hz ha hb c1 c2 c3 c4 c5 t3 t4
        go_enter Tryz.func40, Tryz.ntmps40
        go_wp2
        go_ret
        exact ⟨by first | rfl | (rw [hR]; rfl), Below.refl _ _⟩
      · have t4 : (Y == 9218868437227405312) = false := beq_eq_false_iff_ne.2 (by omega)
        rw [t3] at fX t1
        clear hX hY m1 m2 hz ha hb c1 c2 c3 c4 c5 t3
        go_enter Tryz.func40, Tryz.ntmps40
        go_wp2
        go_ret
        exact ⟨by first | rfl | (rw [hR]; rfl), Below.refl _ _⟩
  have t3 : (X == 9218868437227405312) = false := beq_eq_false_iff_ne.2 (by omega)
  by_cases c4 : y = 9218868437227405312
  · rw [if_neg (by omega), if_neg c3, if_pos c4] at hR
    have t4 : Y = 9218868437227405312 := by omega
    rw [t4] at fY t2
    clear hX hY m1 m2 hz ha hb c1 c2 c3 c4 t4
    go_enter Tryz.func40, Tryz.ntmps40
    go_wp2
    go_ret
    exact ⟨by first | rfl | (rw [hR]; rfl), Below.refl _ _⟩
  have t4 : (Y == 9218868437227405312) = false := beq_eq_false_iff_ne.2 (by omega)
  by_cases c5 : x = 0
  · have t5 : X = 0 := by omega
    by_cases c6 : y = 0
    · rw [if_neg (by omega), if_neg c3, if_neg c4, if_pos ⟨c5, c6⟩] at hR
      have hz1 := hz c5 c6
      have t6 : Y = 0 := by omega
      rw [t5] at fX t1 t3
      rw [t6] at fY t2 t4
      clear hX hY m1 m2 hz ha hb c1 c2 c3 c4 c5 c6 t5 t6
      rw [hR]
      go_enter Tryz.func40, Tryz.ntmps40
      go_wp2
      go_ret
      exact ⟨rfl, Below.refl _ _⟩
    · rw [if_neg (by omega), if_neg c3, if_neg c4, if_neg (by omega), if_pos c5] at hR
      have t6 : (Y == 0) = false := beq_eq_false_iff_ne.2 (by omega)
      rw [t5] at fX t1 t3
      clear hX hY m1 m2 hz ha hb c1 c2 c3 c4 c5 c6 t5
      go_enter Tryz.func40, Tryz.ntmps40
      go_wp2
      go_ret
      exact ⟨by first | rfl | (rw [hR]; rfl), Below.refl _ _⟩
  have t5 : (X == 0) = false := beq_eq_false_iff_ne.2 (by omega)
  by_cases c6 : y = 0
  · rw [if_neg (by omega), if_neg c3, if_neg c4, if_neg (by omega), if_neg c5, if_pos c6] at hR
    have t6 : Y = 0 := by omega
    rw [t6] at fY t2 t4
    clear hX hY m1 m2 hz ha hb c1 c2 c3 c4 c5 c6 t6
    go_enter Tryz.func40, Tryz.ntmps40
    go_wp2
    go_ret
    exact ⟨by first | rfl | (rw [hR]; rfl), Below.refl _ _⟩
  have t6 : (Y == 0) = false := beq_eq_false_iff_ne.2 (by omega)
  rw [if_neg (by omega), if_neg c3, if_neg c4, if_neg (by omega), if_neg c5, if_neg c6] at hR
  by_cases c7 : x < y
  · rw [if_pos c7] at hR
    have k := m2 (by omega) c5 (by omega)
    have t7 : X < Y := by omega
    clear hX hY m1 m2 hz ha hb c1 c2 c3 c4 c5 c6 c7
    go_enter Tryz.func40, Tryz.ntmps40
    go_wp2_with (first | (go_at_call 40; refine (k _).mono ?_; rintro r1 w1 ⟨rfl, hb1⟩; have HB1 := Lib.hid hb1; clear hb1))
    go_ret
    exact ⟨by first | rfl | (rw [hR]; rfl), HB1.out⟩
  · rw [if_neg c7] at hR
    rw [hR]
    exact m1 (by omega) c6 (by omega)

theorem rsub_any {a b : Nat} (ha : a < 2 * signB) (hb : b < 2 * signB) : Grew 41 #[.int .u64 ((a : Nat) : Int), .int .u64 ((b : Nat) : Int)] (.int .u64 ((fsub a b : Nat) : Int)) := by
  intro W
  have kn := (rneg_any hb).grew
  have ka := radd_any ha (fneg_lt hb)
  rw [fsub_eq hb]
  go_enter Tryz.func41, Tryz.ntmps41
  go_wp2_with (first | (go_at_call 49; refine (kn _).mono ?_; rintro r1 w1 ⟨rfl, hb1⟩; have HB1 := Lib.hid hb1; clear hb1) | (go_at_call 40; refine (ka _).mono ?_; rintro r2 w2 ⟨rfl, hb2⟩; have HB2 := Lib.hid (grow_to HB1.out hb2); clear hb2))
  go_ret
  exact ⟨rfl, HB2.out⟩

end Go.Proofs.YtjloiclbknfomaaGreatDoor
