/- The document's products and quotients (contracts). -/
import Derived.Test.YtjloiclbknfomaaGreatDoorNumAdd
set_option maxRecDepth 100000
namespace Go.Proofs.YtjloiclbknfomaaGreatDoor
open Go.RowKit

theorem wcw {n : Nat} (h : n < 18446744073709551616) : wc n = #[.int .u64 0, .int .u64 ((n : Nat) : Int)] := by
  unfold wc
  rw [show (((n : Nat) : Int) / 18446744073709551616) = 0 from by omega, show (((n : Nat) : Int) % 18446744073709551616) = ((n : Nat) : Int) from by omega]
theorem sgn_xor {a b : Nat} (ha : a < 2 * signB) (hb : b < 2 * signB) : bits .and .u64 (bits .xor .u64 ((a : Nat) : Int) ((b : Nat) : Int)) 9223372036854775808 = ((sgn (decide (signB ≤ a) ^^ decide (signB ≤ b)) : Nat) : Int) := by
  have h2 := and_sign ha
  have h3 := and_sign hb
  unfold signB at *
  have ha2 : a < 18446744073709551616 := by omega
  have hb2 : b < 18446744073709551616 := by omega
  rw [u64_xor_nat a b ha2 hb2]
  have h1 : bits .and .u64 ((a ^^^ b : Nat) : Int) ((9223372036854775808 : Nat) : Int) = (((a ^^^ b) &&& 9223372036854775808 : Nat) : Int) := u64_and_nat (a ^^^ b) 9223372036854775808 (Nat.xor_lt_two_pow (n := 64) ha2 hb2) (by decide)
  have h4 : bits .and .u64 ((a : Nat) : Int) ((9223372036854775808 : Nat) : Int) = ((a &&& 9223372036854775808 : Nat) : Int) := u64_and_nat a 9223372036854775808 ha2 (by decide)
  have h5 : bits .and .u64 ((b : Nat) : Int) ((9223372036854775808 : Nat) : Int) = ((b &&& 9223372036854775808 : Nat) : Int) := u64_and_nat b 9223372036854775808 hb2 (by decide)
  have e4 : a &&& 9223372036854775808 = if 9223372036854775808 ≤ a then 9223372036854775808 else 0 := by
    have := h4.symm.trans h2
    by_cases c : 9223372036854775808 ≤ a
    · rw [if_pos c] at this ⊢
      omega
    · rw [if_neg c] at this ⊢
      omega
  have e5 : b &&& 9223372036854775808 = if 9223372036854775808 ≤ b then 9223372036854775808 else 0 := by
    have := h5.symm.trans h3
    by_cases c : 9223372036854775808 ≤ b
    · rw [if_pos c] at this ⊢
      omega
    · rw [if_neg c] at this ⊢
      omega
  rw [Nat.and_xor_distrib_right, e4, e5] at h1
  refine h1.trans ?_
  by_cases c : 9223372036854775808 ≤ a <;> by_cases d : 9223372036854775808 ≤ b <;> simp [c, d, sgn]

set_option maxHeartbeats 8000000 in
set_option maxRecDepth 100000 in
theorem rmul_main {a b : Nat} (ha : a < 2 * signB) (hb : b < 2 * signB) (hx : a % signB < 9218868437227405312) (hy : b % signB < 9218868437227405312) (hx0 : a % signB ≠ 0) (hy0 : b % signB ≠ 0) :
    Grew 42 #[.int .u64 ((a : Nat) : Int), .int .u64 ((b : Nat) : Int)] (.int .u64 ((rnd (decide (signB ≤ a) ^^ decide (signB ≤ b)) (takenM (a % signB) * takenM (b % signB)) (takenE (a % signB) + takenE (b % signB)) false : Nat) : Int)) := by
  intro W
  have fX : bits .andNot .u64 ((a : Nat) : Int) 9223372036854775808 = ((a % 9223372036854775808 : Nat) : Int) := andNot_sign a (by unfold signB at ha; omega)
  have fY : bits .andNot .u64 ((b : Nat) : Int) 9223372036854775808 = ((b % 9223372036854775808 : Nat) : Int) := andNot_sign b (by unfold signB at hb; omega)
  have fS := sgn_xor ha hb
  have ka := (taken_any ha).grew
  have kb := (taken_any hb).grew
  obtain ⟨s, hs⟩ : ∃ s, s = (decide (signB ≤ a) ^^ decide (signB ≤ b)) := ⟨_, rfl⟩
  rw [← hs] at fS ⊢
  obtain ⟨x, hxx⟩ : ∃ x, x = a % signB := ⟨_, rfl⟩
  obtain ⟨y, hyy⟩ : ∃ y, y = b % signB := ⟨_, rfl⟩
  rw [← hxx] at hx hx0 ka ⊢
  rw [← hyy] at hy hy0 kb ⊢
  unfold signB at hxx hyy
  rw [← hxx] at fX
  rw [← hyy] at fY
  have hmn := @taken_lt x
  have hnn := @taken_lt y
  have he0 := takenE_ge x
  have hf0 := takenE_ge y
  have he1 := takenE_le (r := x) hx
  have hf1 := takenE_le (r := y) hy
  have hm0 := takenM_pos hx0
  have hn0 := takenM_pos hy0
  obtain ⟨m, hm⟩ : ∃ m, m = takenM x := ⟨_, rfl⟩
  obtain ⟨n, hn⟩ : ∃ n, n = takenM y := ⟨_, rfl⟩
  obtain ⟨e, he⟩ : ∃ e, e = takenE x := ⟨_, rfl⟩
  obtain ⟨f, hf⟩ : ∃ f, f = takenE y := ⟨_, rfl⟩
  rw [← hm] at ka hmn hm0 ⊢
  rw [← hn] at kb hnn hn0 ⊢
  rw [← he] at ka he0 he1 ⊢
  rw [← hf] at kb hf0 hf1 ⊢
  clear hm hn he hf hs hxx hyy
  have t1 : ¬ (9218868437227405312 : Int) < ((x : Nat) : Int) := by omega
  have t2 : ¬ (9218868437227405312 : Int) < ((y : Nat) : Int) := by omega
  have t3 : (((x : Nat) : Int) == 9218868437227405312) = false := beq_eq_false_iff_ne.2 (by omega)
  have t4 : (((y : Nat) : Int) == 9218868437227405312) = false := beq_eq_false_iff_ne.2 (by omega)
  have t5 : (((x : Nat) : Int) == 0) = false := beq_eq_false_iff_ne.2 (by omega)
  have t6 : (((y : Nat) : Int) == 0) = false := beq_eq_false_iff_ne.2 (by omega)
  obtain ⟨X, hX⟩ : ∃ X : Int, X = ((x : Nat) : Int) := ⟨_, rfl⟩
  obtain ⟨Y, hY⟩ : ∃ Y : Int, Y = ((y : Nat) : Int) := ⟨_, rfl⟩
  rw [← hX] at fX t1 t3 t5
  rw [← hY] at fY t2 t4 t6
  clear hX hY hx hy hx0 hy0
  obtain ⟨S, hS⟩ : ∃ S : Int, S = ((sgn s : Nat) : Int) := ⟨_, rfl⟩
  rw [← hS] at fS
  have hp : m * n < 340282366920938463463374607431768211456 := Nat.lt_of_le_of_lt (Nat.mul_le_mul (show m ≤ 9007199254740991 by omega) (show n ≤ 9007199254740991 by omega)) (by decide)
  have kt0 := fun X => times_any (a := m) (b := n) (by omega) (by omega) X
  have kr0 := fun X => rounded_any s false (w := m * n) (e := e + f) hp (by omega) (by omega) X
  have w1 : IntKind.i64.wrap (e + f) = e + f := by
    rw [IntKind.wrap_i64]
    omega
  obtain ⟨p, hpp⟩ : ∃ p, p = m * n := ⟨_, rfl⟩
  rw [← hpp] at kt0 kr0 ⊢
  rw [← hS] at kr0
  obtain ⟨v, hv⟩ : ∃ v, v = rnd s p (e + f) false := ⟨_, rfl⟩
  rw [← hv] at kr0 ⊢
  have kt : ∀ Z : World, Calls Tryz.prog 71 #[.int .u64 ((m : Nat) : Int), .int .u64 ((n : Nat) : Int)] Z fun r Z' => r = .returned (.agg #[.int .u64 (((p : Nat) : Int) / 18446744073709551616), .int .u64 (((p : Nat) : Int) % 18446744073709551616)]) ∧ Below Z.heap.size Z Z' := kt0
  have kr : ∀ Z : World, Calls Tryz.prog 68 #[.int .u64 S, .agg #[.int .u64 (((p : Nat) : Int) / 18446744073709551616), .int .u64 (((p : Nat) : Int) % 18446744073709551616)], .int .i64 (e + f), .bool false] Z fun r Z' => r = .returned (.int .u64 ((v : Nat) : Int)) ∧ Below Z.heap.size Z Z' := kr0
  clear kt0 kr0 hpp hp hv hS hmn hnn he0 he1 hf0 hf1 hm0 hn0
  go_enter Tryz.func42, Tryz.ntmps42
  go_wp2_with (first | (go_at_call 53; first | (with_reducible (refine (ka _).mono ?_); rintro r1 w1 ⟨rfl, hb1⟩; have HB1 := Lib.hid hb1; clear hb1) | (with_reducible (refine (kb _).mono ?_); rintro r2 w2 ⟨rfl, hb2⟩; have HB2 := Lib.hid (grow_to HB1.out hb2); clear hb2)) | (go_at_call 71; go_loud (refine (kt _).mono ?_; rintro r3 w3 ⟨rfl, hb3⟩; have HB3 := Lib.hid (grow_to HB2.out hb3); clear hb3)) | (go_at_call 68; go_loud (refine (kr _).mono ?_; rintro r4 w4 ⟨rfl, hb4⟩; have HB4 := Lib.hid (grow_to HB3.out hb4); clear hb4)))
  go_ret
  exact ⟨rfl, HB4.out⟩

set_option maxHeartbeats 8000000 in
set_option maxRecDepth 100000 in
theorem rmul_any {a b : Nat} (ha : a < 2 * signB) (hb : b < 2 * signB) : Grew 42 #[.int .u64 ((a : Nat) : Int), .int .u64 ((b : Nat) : Int)] (.int .u64 ((fmul a b : Nat) : Int)) := by
  intro W
  rw [fmul_eq ha hb]
  have km := rmul_main ha hb
  have fS := sgn_xor ha hb
  have hR : rMul a b = if infB < a % signB ∨ infB < b % signB ∨ (a % signB = infB ∧ b % signB = 0) ∨ (a % signB = 0 ∧ b % signB = infB) then nanB else if a % signB = infB ∨ b % signB = infB then D.word (decide (signB ≤ a) ^^ decide (signB ≤ b)) infB else if a % signB = 0 ∨ b % signB = 0 then D.word (decide (signB ≤ a) ^^ decide (signB ≤ b)) 0 else rnd (decide (signB ≤ a) ^^ decide (signB ≤ b)) (takenM (a % signB) * takenM (b % signB)) (takenE (a % signB) + takenE (b % signB)) false := rfl
  have fX : bits .andNot .u64 ((a : Nat) : Int) 9223372036854775808 = ((a % 9223372036854775808 : Nat) : Int) := andNot_sign a (by unfold signB at ha; omega)
  have fY : bits .andNot .u64 ((b : Nat) : Int) 9223372036854775808 = ((b % 9223372036854775808 : Nat) : Int) := andNot_sign b (by unfold signB at hb; omega)
  obtain ⟨s, hs⟩ : ∃ s, s = (decide (signB ≤ a) ^^ decide (signB ≤ b)) := ⟨_, rfl⟩
  rw [← hs] at fS hR km
  have fO : bits .or .u64 ((sgn s : Nat) : Int) 9218868437227405312 = ((D.word s infB : Nat) : Int) := by
    rw [word_sgn]
    exact or_sgn s (r := 9218868437227405312) (by decide)
  have fZ : D.word s 0 = sgn s := by rw [word_sgn]; rfl
  rw [fZ] at hR
  obtain ⟨S, hS⟩ : ∃ S : Int, S = ((sgn s : Nat) : Int) := ⟨_, rfl⟩
  rw [← hS] at fS fO
  obtain ⟨x, hxx⟩ : ∃ x, x = a % signB := ⟨_, rfl⟩
  obtain ⟨y, hyy⟩ : ∃ y, y = b % signB := ⟨_, rfl⟩
  rw [← hxx, ← hyy] at hR km
  unfold signB at hxx hyy
  rw [← hxx] at fX
  rw [← hyy] at fY
  clear hxx hyy hs fZ
  obtain ⟨I, hI⟩ : ∃ I, I = D.word s infB := ⟨_, rfl⟩
  rw [← hI] at fO hR
  have I0 : infB = 9218868437227405312 := rfl
  rw [I0] at hR
  clear I0 hI
  obtain ⟨v, hv⟩ : ∃ v, v = rMul a b := ⟨_, rfl⟩
  rw [← hv] at hR ⊢
  clear hv ha hb
  obtain ⟨X, hX⟩ : ∃ X : Int, X = ((x : Nat) : Int) := ⟨_, rfl⟩
  obtain ⟨Y, hY⟩ : ∃ Y : Int, Y = ((y : Nat) : Int) := ⟨_, rfl⟩
  rw [← hX] at fX
  rw [← hY] at fY

  by_cases c1 : 9218868437227405312 < x
  · rw [if_pos (.inl c1)] at hR
    have t1 : (9218868437227405312 : Int) < X := by omega
    clear hX hY km hS c1
    go_enter Tryz.func42, Tryz.ntmps42
    go_wp2
    go_ret
    exact ⟨by first | rfl | (rw [hR]; rfl), Below.refl _ _⟩
  have t1 : ¬ (9218868437227405312 : Int) < X := by omega
  by_cases c2 : 9218868437227405312 < y
  · rw [if_pos (.inr (.inl c2))] at hR
    have t2 : (9218868437227405312 : Int) < Y := by omega
    clear hX hY km hS c1 c2
    go_enter Tryz.func42, Tryz.ntmps42
    go_wp2
    go_ret
    exact ⟨by first | rfl | (rw [hR]; rfl), Below.refl _ _⟩
  have t2 : ¬ (9218868437227405312 : Int) < Y := by omega
  by_cases cx0 : x = 9218868437227405312
  · by_cases cy0 : y = 9218868437227405312
    · rw [if_neg (by omega), if_pos (by omega)] at hR
      have e0 : X = 9218868437227405312 := by omega
      have e1 : Y = 9218868437227405312 := by omega
      clear hX hY km c1 c2 cx0 cy0
      rw [e0] at fX t1
      rw [e1] at fY t2
      clear e0
      clear e1
      clear hS
      go_enter Tryz.func42, Tryz.ntmps42
      go_wp2
      go_ret
      exact ⟨by first | rfl | (rw [hR]; rfl), Below.refl _ _⟩
    by_cases cy1 : y = 0
    · rw [if_pos (by omega)] at hR
      have e0 : X = 9218868437227405312 := by omega
      have v0 : (Y == 9218868437227405312) = false := beq_eq_false_iff_ne.2 (by omega)
      have e1 : Y = 0 := by omega
      clear hX hY km c1 c2 cx0 cy0 cy1
      rw [e0] at fX t1
      rw [e1] at fY t2 v0
      clear e0
      clear e1
      clear hS
      go_enter Tryz.func42, Tryz.ntmps42
      go_wp2
      go_ret
      exact ⟨by first | rfl | (rw [hR]; rfl), Below.refl _ _⟩
    rw [if_neg (by omega), if_pos (by omega)] at hR
    have e0 : X = 9218868437227405312 := by omega
    have v0 : (Y == 9218868437227405312) = false := beq_eq_false_iff_ne.2 (by omega)
    have v1 : (Y == 0) = false := beq_eq_false_iff_ne.2 (by omega)
    clear hX hY km c1 c2 cx0 cy0 cy1
    rw [e0] at fX t1
    clear e0
    clear hS
    go_enter Tryz.func42, Tryz.ntmps42
    go_wp2
    go_ret
    exact ⟨by first | rfl | (rw [hR]; rfl), Below.refl _ _⟩
  by_cases cx1 : x = 0
  · by_cases cy0 : y = 9218868437227405312
    · rw [if_pos (by omega)] at hR
      have u0 : (X == 9218868437227405312) = false := beq_eq_false_iff_ne.2 (by omega)
      have e0 : X = 0 := by omega
      have e1 : Y = 9218868437227405312 := by omega
      clear hX hY km c1 c2 cx0 cx1 cy0
      rw [e0] at fX t1 u0
      rw [e1] at fY t2
      clear e0
      clear e1
      clear hS
      go_enter Tryz.func42, Tryz.ntmps42
      go_wp2
      go_ret
      exact ⟨by first | rfl | (rw [hR]; rfl), Below.refl _ _⟩
    by_cases cy1 : y = 0
    · rw [if_neg (by omega), if_neg (by omega), if_pos (by omega)] at hR
      have u0 : (X == 9218868437227405312) = false := beq_eq_false_iff_ne.2 (by omega)
      have e0 : X = 0 := by omega
      have v0 : (Y == 9218868437227405312) = false := beq_eq_false_iff_ne.2 (by omega)
      have e1 : Y = 0 := by omega
      clear hX hY km c1 c2 cx0 cx1 cy0 cy1
      rw [e0] at fX t1 u0
      rw [e1] at fY t2 v0
      clear e0
      clear e1
      go_enter Tryz.func42, Tryz.ntmps42
      go_wp2
      go_ret
      exact ⟨by first | rfl | (rw [hR, ← hS]; rfl) | (rw [hR, hS]; rfl), Below.refl _ _⟩
    rw [if_neg (by omega), if_neg (by omega), if_pos (by omega)] at hR
    have u0 : (X == 9218868437227405312) = false := beq_eq_false_iff_ne.2 (by omega)
    have e0 : X = 0 := by omega
    have v0 : (Y == 9218868437227405312) = false := beq_eq_false_iff_ne.2 (by omega)
    have v1 : (Y == 0) = false := beq_eq_false_iff_ne.2 (by omega)
    clear hX hY km c1 c2 cx0 cx1 cy0 cy1
    rw [e0] at fX t1 u0
    clear e0
    go_enter Tryz.func42, Tryz.ntmps42
    go_wp2
    go_ret
    exact ⟨by first | rfl | (rw [hR, ← hS]; rfl) | (rw [hR, hS]; rfl), Below.refl _ _⟩
  by_cases cy0 : y = 9218868437227405312
  · rw [if_neg (by omega), if_pos (by omega)] at hR
    have u0 : (X == 9218868437227405312) = false := beq_eq_false_iff_ne.2 (by omega)
    have u1 : (X == 0) = false := beq_eq_false_iff_ne.2 (by omega)
    have e1 : Y = 9218868437227405312 := by omega
    clear hX hY km c1 c2 cx0 cx1 cy0
    rw [e1] at fY t2
    clear e1
    clear hS
    go_enter Tryz.func42, Tryz.ntmps42
    go_wp2
    go_ret
    exact ⟨by first | rfl | (rw [hR]; rfl), Below.refl _ _⟩
  by_cases cy1 : y = 0
  · rw [if_neg (by omega), if_neg (by omega), if_pos (by omega)] at hR
    have u0 : (X == 9218868437227405312) = false := beq_eq_false_iff_ne.2 (by omega)
    have u1 : (X == 0) = false := beq_eq_false_iff_ne.2 (by omega)
    have v0 : (Y == 9218868437227405312) = false := beq_eq_false_iff_ne.2 (by omega)
    have e1 : Y = 0 := by omega
    clear hX hY km c1 c2 cx0 cx1 cy0 cy1
    rw [e1] at fY t2 v0
    clear e1
    go_enter Tryz.func42, Tryz.ntmps42
    go_wp2
    go_ret
    exact ⟨by first | rfl | (rw [hR, ← hS]; rfl) | (rw [hR, hS]; rfl), Below.refl _ _⟩
  rw [if_neg (by omega), if_neg (by omega), if_neg (by omega)] at hR
  rw [hR]
  exact km (by omega) (by omega) (by omega) (by omega) W
end Go.Proofs.YtjloiclbknfomaaGreatDoor
