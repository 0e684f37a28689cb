/- The document's quotient of a number of 128 bits by one of 53 (contract). -/
import Derived.Test.YtjlnbfpjlladoaaGreatDoorNumWide3
set_option maxRecDepth 100000
namespace Go.Proofs.YtjlnbfpjlladoaaGreatDoor
open Go.RowKit

theorem WAt.odd {w : World} {g n : Nat} (h : WAt w g n) (hn : n % 2 = 0) : WAt (w.setCell ⟨g, 1, none⟩ (.int .u64 (((n + 1 : Nat) : Int) % 18446744073709551616))) g (n + 1) := by
  have h2 := Cells.set h 1 (.int .u64 (((n + 1 : Nat) : Int) % 18446744073709551616))
  have e : (wc n).setIfInBounds 1 (.int .u64 (((n + 1 : Nat) : Int) % 18446744073709551616)) = wc (n + 1) := by
    unfold wc
    rw [show (((n + 1 : Nat) : Int) / 18446744073709551616) = (((n : Nat) : Int) / 18446744073709551616) from by omega]
    rfl
  rw [e] at h2
  exact h2
theorem and_one (x : Nat) : bits .and .u64 (((x : Nat) : Int) % 18446744073709551616) 1 = ((x % 2 : Nat) : Int) := by
  have h : bits .and .u64 ((x % 18446744073709551616 : Nat) : Int) ((1 : Nat) : Int) = ((x % 18446744073709551616 &&& 1 : Nat) : Int) := u64_and_nat (x % 18446744073709551616) 1 (by omega) (by decide)
  rw [Nat.and_one_is_mod, show x % 18446744073709551616 % 2 = x % 2 from by omega] at h
  rw [show (((x : Nat) : Int) % 18446744073709551616) = ((x % 18446744073709551616 : Nat) : Int) from by omega]
  exact h
theorem or_bit {x b : Nat} (hx : x % 2 = 0) (hl : x < 18446744073709551616) (hb : b < 2) : bits .or .u64 ((x : Nat) : Int) ((b : Nat) : Int) = ((x + b : Nat) : Int) := by
  have h := u64_or_nat x b hl (by omega)
  have e : x ||| b = x + b := nat_join1 x b hx hb
  rw [e] at h
  exact h
set_option maxHeartbeats 8000000 in
set_option maxRecDepth 100000 in
theorem by_any {w n : Nat} (hw : w < 340282366920938463463374607431768211456) (hn0 : 0 < n) (hn : n < 9007199254740992) (W : World) :
    Calls Tryz.prog 48 #[wv w, .int .u64 ((n : Nat) : Int)] W fun e W' => e = .returned (.tuple #[wv (w / n), .bool (decide (0 < w % n))]) ∧ Below W.heap.size W W' := by
  obtain ⟨p, hp⟩ : ∃ p, p = w / n := ⟨_, rfl⟩
  obtain ⟨m, hm⟩ : ∃ m, m = w % n := ⟨_, rfl⟩
  rw [← hp, ← hm, wv_is, wv_is]
  have HP := Lib.hid hp
  have HM := Lib.hid hm
  clear hp hm
  go_enter Tryz.func48, Tryz.ntmps48
  go_wp2
  go_loopw [7, 8] (fun vr vi wr => ∃ (i : Int) (q r : Nat), vi = .int .i64 i ∧ vr = .int .u64 ((r : Nat) : Int) ∧ -1 ≤ i ∧ i ≤ 127 ∧ WAt wr W.heap.size w ∧ WAt wr (W.heap.size + 1) 0 ∧ WAt wr (W.heap.size + 2) q ∧ Below W.heap.size W wr ∧ Hid (q = w / 2 ^ (i + 1).toNat / n ∧ r = w / 2 ^ (i + 1).toNat % n)) (fun _ v _ => (intOf v + 1).toNat)
  case atStart =>
    have h0 : w / 2 ^ (127 + 1 : Int).toNat = 0 := Nat.div_eq_of_lt (Nat.lt_of_lt_of_le hw (by decide))
    refine ⟨127, 0, 0, rfl, rfl, by omega, by omega, ((Cells.new W _ _).alloc _).alloc _, (Cells.newAt _ _ _ _ (by rw [World.size_alloc])).alloc _, Cells.newAt _ _ _ _ (by rw [World.size_alloc, World.size_alloc]), bel_alloc (bel_alloc (bel_alloc (Below.refl _ _) _) _) _, ?_⟩
    show 0 = w / 2 ^ (127 + 1 : Int).toNat / n ∧ 0 = w / 2 ^ (127 + 1 : Int).toNat % n
    rw [h0, Nat.zero_div, Nat.zero_mod]
    exact ⟨rfl, rfl⟩
  case round =>
    obtain ⟨i, q, r, rfl, rfl, hi0, hi1, hC, hR, hQ, hB, HH⟩ := hrel
    have hsz := hB.size
    by_cases c : 0 ≤ i
    · obtain ⟨k, rfl⟩ : ∃ k : Nat, i = ((k : Nat) : Int) := ⟨i.toNat, by omega⟩
      have hq := HH.out.1
      have hr := HH.out.2
      rw [show (((k : Nat) : Int) + 1).toNat = k + 1 from by omega] at hq hr
      have hnb := next_bit w k
      have hxw : w / 2 ^ k < 340282366920938463463374607431768211456 := Nat.lt_of_le_of_lt (Nat.div_le_self _ _) hw
      have hqb := quo_bit (x := w / 2 ^ (k + 1)) (n := n) (bit := w / 2 ^ k % 2) (by omega) hn0
      have hrn : r < n := by
        rw [hr]
        exact Nat.mod_lt _ hn0
      rw [← hnb, ← hq, ← hr] at hqb
      have kr := fun X => wright_any (n := w) (k := k) (by omega) hw X
      have HEnd : Hid (∀ q' r', q' = w / 2 ^ k / n → r' = w / 2 ^ k % n → q' = w / 2 ^ (((k : Nat) : Int) - 1 + 1).toNat / n ∧ r' = w / 2 ^ (((k : Nat) : Int) - 1 + 1).toNat % n) := fun q' r' h1 h2 => by
        rw [show (((k : Nat) : Int) - 1 + 1).toNat = k from by omega]
        exact ⟨h1, h2⟩
      obtain ⟨x, hx⟩ : ∃ x, x = w / 2 ^ k := ⟨_, rfl⟩
      rw [← hx] at hqb kr hxw HEnd
      have kr : ∀ X : World, Calls Tryz.prog 73 #[.agg #[.int .u64 (((w : Nat) : Int) / 18446744073709551616), .int .u64 (((w : Nat) : Int) % 18446744073709551616)], .int .i64 ((k : Nat) : Int)] X fun e X' => e = .returned (.agg #[.int .u64 (((x : Nat) : Int) / 18446744073709551616), .int .u64 (((x : Nat) : Int) % 18446744073709551616)]) ∧ Below X.heap.size X X' := kr
      obtain ⟨bit, hbit⟩ : ∃ b, b = x % 2 := ⟨_, rfl⟩
      have hb2 : bit < 2 := by omega
      have ha := and_one x
      rw [← hbit] at hqb ha
      have hql : q * 2 ^ 1 < 340282366920938463463374607431768211456 := by
        rw [Nat.pow_one]
        have h2 : q ≤ w / 2 ^ (k + 1) := by
          rw [hq]
          exact Nat.div_le_self _ _
        omega
      have kl := fun X => wleft_any (n := q) (k := 1) (by omega) hql X
      obtain ⟨y, hy⟩ : ∃ y, y = q * 2 ^ 1 := ⟨_, rfl⟩
      rw [← hy] at kl hql
      rw [Nat.pow_one] at hy
      have kl : ∀ X : World, Calls Tryz.prog 43 #[.agg #[.int .u64 (((q : Nat) : Int) / 18446744073709551616), .int .u64 (((q : Nat) : Int) % 18446744073709551616)], .int .i64 1] X fun e X' => e = .returned (.agg #[.int .u64 (((y : Nat) : Int) / 18446744073709551616), .int .u64 (((y : Nat) : Int) % 18446744073709551616)]) ∧ Below X.heap.size X X' := kl
      have s1 : IntKind.u64.wrap (((r : Nat) : Int) * 2) = ((2 * r : Nat) : Int) := by
        rw [IntKind.wrap_u64]
        omega
      have s2 := or_bit (x := 2 * r) (b := bit) (by omega) (by omega) hb2
      have s3 : IntKind.i64.wrap (((k : Nat) : Int) - 1) = ((k : Nat) : Int) - 1 := by
        rw [IntKind.wrap_i64]
        omega
      obtain ⟨u, hu⟩ : ∃ u, u = 2 * r + bit := ⟨_, rfl⟩
      rw [← hu] at s2 hqb
      obtain ⟨t, ht⟩ : ∃ t, t = 2 * r := ⟨_, rfl⟩
      rw [← ht] at s1 s2
      have a0 := WAt.c0 hC
      have a1 := WAt.c1 hC
      have HC := Lib.hid hC
      have HR := Lib.hid hR
      have HQ := Lib.hid hQ
      have HE := Lib.hid hx
      by_cases d : n ≤ u
      · rw [if_pos d] at hqb
        have HV := Lib.hid (HEnd.out (y + 1) (u - n) (by omega) (by omega))
        have s4 : IntKind.u64.wrap (((u : Nat) : Int) - ((n : Nat) : Int)) = ((u - n : Nat) : Int) := by
          rw [IntKind.wrap_u64]
          omega
        have hy2 : y % 2 = 0 := by omega
        have s5 : bits .or .u64 (((y : Nat) : Int) % 18446744073709551616) 1 = (((y + 1 : Nat) : Int) % 18446744073709551616) := by
          have h := or_bit (x := y % 18446744073709551616) (b := 1) (by omega) (by omega) (by decide)
          rw [show (((y : Nat) : Int) % 18446744073709551616) = ((y % 18446744073709551616 : Nat) : Int) from by omega, show (((y + 1 : Nat) : Int) % 18446744073709551616) = ((y % 18446744073709551616 + 1 : Nat) : Int) from by omega]
          exact h
        have d' : ((n : Nat) : Int) ≤ ((u : Nat) : Int) := by omega
        obtain ⟨v, hv⟩ : ∃ v, v = u - n := ⟨_, rfl⟩
        rw [← hv] at s4 HV
        have HY2 := Lib.hid hy2
        obtain ⟨L, hL⟩ : ∃ L : Int, L = (((y + 1 : Nat) : Int) % 18446744073709551616) := ⟨_, rfl⟩
        rw [← hL] at s5
        have HL := Lib.hid hL
        clear hC hR hQ hq hr hnb hxw hqb hbit hb2 hql hu ht hy hx d hv hy2 hL hi0
        go_wp2_with (first | (go_at_call 73; go_loud (refine (kr _).mono ?_; rintro x2 w2 ⟨rfl, hb2⟩; have hC2 := Cells.keep HC.out hb2; have hR2 := Cells.keep HR.out hb2; have hQ2 := Cells.keep HQ.out hb2; have b0 := WAt.c0 hQ2; have b1 := WAt.c1 hQ2; have b2 := Cells.fz hQ2 0; have b3 := Cells.fz hQ2 1; have hlt2 := Cells.lt hQ2; have HC2 := Lib.hid hC2; have HR2 := Lib.hid hR2; have HQ2 := Lib.hid hQ2; have HB2 := Lib.hid (grow_to hB hb2); clear hC2 hR2 hQ2 hb2 hB)) | (go_at_call 43; go_loud (refine (kl _).mono ?_; rintro x3 w3 ⟨rfl, hb3⟩; have hC3 := Cells.keep (Cells.alloc HC2.out _) hb3; have hR3 := Cells.keep (Cells.alloc HR2.out _) hb3; have hQ3 := Cells.keep (Cells.alloc HQ2.out _) hb3; have d2 := Cells.fz hQ3 0; have d3 := Cells.fz hQ3 1; have d0 := WAt.c0 hQ3; have d1 := WAt.c1 hQ3; have HC3 := Lib.hid hC3; have HR3 := Lib.hid hR3; have HQ3 := Lib.hid hQ3; have HB3 := Lib.hid (grow_to (bel_alloc HB2.out _) hb3); clear hC3 hR3 hQ3 hb3)))
        refine ⟨⟨((k : Nat) : Int) - 1, y + 1, v, rfl, rfl, by omega, by omega, Cells.far (Cells.far (Cells.far HC3.out (by show _ ≠ W.heap.size + 1 + 1; omega) _) (by show _ ≠ W.heap.size + 1 + 1; omega) _) (by show _ ≠ W.heap.size + 1 + 1; omega) _, Cells.far (Cells.far (Cells.far HR3.out (by show _ ≠ W.heap.size + 1 + 1; omega) _) (by show _ ≠ W.heap.size + 1 + 1; omega) _) (by show _ ≠ W.heap.size + 1 + 1; omega) _, ?_, (bel_store HB3.out (by omega) _ _).setCell (by show W.heap.size ≤ W.heap.size + 1 + 1; omega) _, HV⟩, by simp [intOf]⟩
        rw [HL.out]
        exact WAt.odd (WAt.store HQ3.out) HY2.out
      · rw [if_neg d] at hqb
        have HV := Lib.hid (HEnd.out y u (by omega) (by omega))
        have d' : ¬ ((n : Nat) : Int) ≤ ((u : Nat) : Int) := by omega
        clear hC hR hQ hq hr hnb hxw hqb hbit hb2 hql hu ht hy hx d hi0
        go_wp2_with (first | (go_at_call 73; go_loud (refine (kr _).mono ?_; rintro x2 w2 ⟨rfl, hb2⟩; have hC2 := Cells.keep HC.out hb2; have hR2 := Cells.keep HR.out hb2; have hQ2 := Cells.keep HQ.out hb2; have b0 := WAt.c0 hQ2; have b1 := WAt.c1 hQ2; have b2 := Cells.fz hQ2 0; have b3 := Cells.fz hQ2 1; have hlt2 := Cells.lt hQ2; have HC2 := Lib.hid hC2; have HR2 := Lib.hid hR2; have HQ2 := Lib.hid hQ2; have HB2 := Lib.hid (grow_to hB hb2); clear hC2 hR2 hQ2 hb2 hB)) | (go_at_call 43; go_loud (refine (kl _).mono ?_; rintro x3 w3 ⟨rfl, hb3⟩; have hC3 := Cells.keep (Cells.alloc HC2.out _) hb3; have hR3 := Cells.keep (Cells.alloc HR2.out _) hb3; have hQ3 := Cells.keep (Cells.alloc HQ2.out _) hb3; have d2 := Cells.fz hQ3 0; have d3 := Cells.fz hQ3 1; have d0 := WAt.c0 hQ3; have d1 := WAt.c1 hQ3; have HC3 := Lib.hid hC3; have HR3 := Lib.hid hR3; have HQ3 := Lib.hid hQ3; have HB3 := Lib.hid (grow_to (bel_alloc HB2.out _) hb3); clear hC3 hR3 hQ3 hb3)))
        exact ⟨⟨((k : Nat) : Int) - 1, y, u, rfl, rfl, by omega, by omega, Cells.far (Cells.far HC3.out (by show _ ≠ W.heap.size + 1 + 1; omega) _) (by show _ ≠ W.heap.size + 1 + 1; omega) _, Cells.far (Cells.far HR3.out (by show _ ≠ W.heap.size + 1 + 1; omega) _) (by show _ ≠ W.heap.size + 1 + 1; omega) _, WAt.store HQ3.out, bel_store HB3.out (by omega) _ _, HV⟩, by simp [intOf]⟩
    · have hi : i = -1 := by omega
      subst hi
      have hq := HH.out.1
      have hr := HH.out.2
      rw [show (-1 + 1 : Int).toNat = 0 from rfl, Nat.pow_zero, Nat.div_one] at hq hr
      rw [← HP.out] at hq
      rw [← HM.out] at hr
      subst hq hr
      have o0 := WAt.c0 hQ
      have o1 := WAt.c1 hQ
      have r0 := WAt.c0 hR
      have r1 := WAt.c1 hR
      have f0 := Cells.fz hR 0
      have f1 := Cells.fz hR 1
      have HR := Lib.hid hR
      have HB := Lib.hid hB
      clear hB hR hQ hC
      go_wp2
      have hZ := WAt.store (m := q) HR.out
      have hZB := bel_store HB.out (Nat.le_succ _) (.int .u64 (((q : Nat) : Int) / 18446744073709551616)) (.int .u64 (((q : Nat) : Int) % 18446744073709551616))
      obtain ⟨wz, hwz⟩ : ∃ wz, wz = (wr.setCell ⟨W.heap.size + 1, 0, none⟩ (.int .u64 (((q : Nat) : Int) / 18446744073709551616))).setCell ⟨W.heap.size + 1, 1, none⟩ (.int .u64 (((q : Nat) : Int) % 18446744073709551616)) := ⟨_, rfl⟩
      rw [← hwz] at hZ hZB ⊢
      have z0 := WAt.c0 hZ
      have z1 := WAt.c1 hZ
      clear hwz hZ o0 o1 r0 r1 f0 f1
      refine bodyPost_ret (v := .tuple #[.agg #[.int .u64 (((q : Nat) : Int) / 18446744073709551616), .int .u64 (((q : Nat) : Int) % 18446744073709551616)], .bool (decide (0 < r))]) (by simp [results, Tryz.results48, go_sem, z0, z1]) rfl ?_
      exact ⟨rfl, hZB⟩

end Go.Proofs.YtjlnbfpjlladoaaGreatDoor
