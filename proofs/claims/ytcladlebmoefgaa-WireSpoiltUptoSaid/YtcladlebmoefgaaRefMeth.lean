/- What the reference's reader's calls answer: just what package pack's answer. -/
import Derived.Test.YtcladlebmoefgaaRefNumber
namespace Go.Proofs.Ytcladlebmoefgaa
open Go.RowKit

theorem ref_of {g off : Nat} {b : ByteArray} {p : Nat} {s : Nat × Nat × Int} {w : World} (hs : s.2.2 = 0 ∨ s.2.1 = p) (h : Ref w g off b p s.2.2 (fa s.2.2 p)) (k : Nat) (hk : k = s.2.1) : Ref (w.setCell ⟨g, off + 1, none⟩ (.int .i64 (k : Int))) g off b s.2.1 s.2.2 (fa s.2.2 s.2.1) := by
  subst hk
  have h2 := h.set1 s.2.1
  rcases hs with h0 | h0
  · rw [h0] at h2 ⊢
    exact h2
  · rw [h0] at h2 ⊢
    exact h2

theorem step_place {α : Type} {z : α} {r : Except Int (α × Nat)} {p : Nat} {e : Int} : (rdrStep z r p e).2.2 = 0 ∨ (rdrStep z r p e).2.1 = p := by
  unfold rdrStep
  by_cases he : e = 0
  · rw [if_neg (by simp [he])]
    cases r with
    | error c => exact .inr rfl
    | ok v => exact .inl rfl
  · rw [if_pos he]
    exact .inr rfl

theorem step_up {r : Except Int (Nat × Nat)} {p : Nat} {e : Int} : rdrStep 0 (upR r) p e = (((rdrStep 0 r p e).1 : Int), (rdrStep 0 r p e).2) := by
  unfold rdrStep upR
  by_cases he : e = 0
  · subst he
    cases r with
    | error c => rfl
    | ok v => rfl
  · rw [if_pos he, if_pos he]
    rfl

set_option maxHeartbeats 1000000 in
theorem fNum (g off : Nat) (b : ByteArray) (p : Nat) (e : Int) (most : Nat) (w : World) (hR : Ref w g off b p e (fa e p)) (hp : p ≤ b.size) (hb : b.size < 4294967296) (hm : most < 18446744073709551616) :
    Calls Try.prog 31 #[.pointer (some ⟨g, off, none⟩), .int .u64 (most : Int)] w (RefPost (Value.int .u64) g off b (rdrStep 0 (upR (numR (b.data.toList.drop p) most 21)) p e) w) := by
  rw [step_up]
  have hcall := number_ref g off b p e most 21 w hR hp hb hm (by decide)
  have hs := step_place (z := 0) (r := numR (b.data.toList.drop p) most 21) (p := p) (e := e)
  obtain ⟨s, hsd⟩ : ∃ s, s = rdrStep 0 (numR (b.data.toList.drop p) most 21) p e := ⟨_, rfl⟩
  rw [← hsd] at hcall hs ⊢
  clear hsd
  have HC := Lib.hid hcall
  clear hcall
  go_enter Try.func31, Try.ntmps31
  go_wp2_with fail
  refine HC.out.mono ?_
  rintro x w1 ⟨rfl, hR1, ho1⟩
  have h1 := hR1.c1
  have f1 := hR1.fz (off + 1)
  go_wp2
  go_ret
  exact ⟨rfl, ref_of hs hR1 _ rfl, only4_set ho1 ⟨by omega, by omega⟩ _⟩


set_option maxHeartbeats 2000000 in
theorem fText (g off : Nat) (b : ByteArray) (p : Nat) (e : Int) (most : Int) (w : World) (hR : Ref w g off b p e (fa e p)) (hp : p ≤ b.size) (hb : b.size < 4294967296) (hm : most ≤ 9223372036854775807) :
    Calls Try.prog 33 #[.pointer (some ⟨g, off, none⟩), .int .i64 most] w (RefPost Value.string g off b (rdrStep ⟨#[]⟩ (textR (b.data.toList.drop p) most.toNat) p e) w) := by
  have hcall := number_ref g off b p e most.toNat 23 w hR hp hb (by omega) (by decide)
  obtain ⟨x0, hx0⟩ : ∃ x0 : Int, x0 = if most < 0 then 0 else most := ⟨_, rfl⟩
  have e0 : (most.toNat : Int) = x0 := by rw [hx0]; split <;> omega
  rw [e0] at hcall
  by_cases he : e = 0
  · subst he
    cases hr : numR (b.data.toList.drop p) most.toNat 23 with
    | error c => 
      rw [hr] at hcall
      have hc : c ≠ 0 := numR_err (by decide) hr
      have hcb : (c == 0) = false := by rw [beq_eq_false_iff_ne]; exact hc
      have ht : rdrStep ⟨#[]⟩ (textR (b.data.toList.drop p) most.toNat) p 0 = ((⟨#[]⟩ : ByteArray), p, c) := by unfold textR; rw [hr]; rfl
      rw [ht]
      have hcall : Calls Try.prog 62 _ w (NumRef g off b p (0, p, c) w) := hcall
      have HC := Lib.hid hcall
      clear hcall ht hr
      by_cases hneg : most < 0
      all_goals
        first | rw [if_pos hneg] at hx0 | rw [if_neg hneg] at hx0
        subst hx0
        go_enter Try.func33, Try.ntmps33
        go_wp2_with fail
        refine HC.out.mono ?_
        rintro x w1 ⟨rfl, hR1, ho1⟩
        have h2 := hR1.c2
        go_wp2
        go_ret
        exact ⟨rfl, hR1, ho1⟩
    | ok nk =>
      obtain ⟨n, j⟩ := nk
      rw [hr] at hcall
      have hcall : Calls Try.prog 62 _ w (NumRef g off b p (n, p + j, 0) w) := hcall
      have HC := Lib.hid hcall
      have hj : p + j ≤ b.size := by
        have := (rdv_len _ _ _ _ _ (numR_rdv hr).1).2.1
        rw [drop_len] at this
        omega
      have hn := (rdv_form_of (numR_rdv hr).1).1
      by_cases hfit : n ≤ b.size - (p + j)
      · have ht : rdrStep ⟨#[]⟩ (textR (b.data.toList.drop p) most.toNat) p 0 = (b.extract (p + j) (p + j + n), p + j + n, 0) := by
          unfold textR
          rw [hr]
          simp only
          rw [if_pos (by rw [drop_len]; omega), ← extract_str]
          unfold rdrStep
          rw [if_neg (by simp)]
          simp only [Nat.add_assoc]
        rw [ht]
        have hf1 : ¬ (b.size : Int) - ((p + j : Nat) : Int) < n := by omega
        have hf2 : ¬ (b.size : Int) < (p : Int) + j + n := by omega
        clear hcall ht hr
        by_cases hneg : most < 0
        all_goals
          first | rw [if_pos hneg] at hx0 | rw [if_neg hneg] at hx0
          subst hx0
          go_enter Try.func33, Try.ntmps33
          go_wp2_with fail
          refine HC.out.mono ?_
          rintro x w1 ⟨rfl, hR1, ho1⟩
          have h0 := hR1.c0
          have h1 := hR1.c1
          have h2 := hR1.c2
          have f1 := hR1.fz (off + 1)
          go_wp2
          go_quiet (fail)
          go_wp2
          go_ret
          refine ⟨rfl, ?_, only4_drewN (only4_set ho1 ⟨by omega, by omega⟩ _) _⟩
          exact (hR1.set1 (p + j + n)).drewN _
      · have ht : rdrStep ⟨#[]⟩ (textR (b.data.toList.drop p) most.toNat) p 0 = ((⟨#[]⟩ : ByteArray), p, 20) := by
          unfold textR
          rw [hr]
          simp only
          rw [if_neg (by rw [drop_len]; omega)]
          rfl
        rw [ht]
        have hf1 : (b.size : Int) - ((p + j : Nat) : Int) < n := by omega
        clear hcall ht hr
        by_cases hneg : most < 0
        all_goals
          first | rw [if_pos hneg] at hx0 | rw [if_neg hneg] at hx0
          subst hx0
          go_enter Try.func33, Try.ntmps33
          go_wp2_with fail
          refine HC.out.mono ?_
          rintro x w1 ⟨rfl, hR1, ho1⟩
          have h0 := hR1.c0
          have h2 := hR1.c2
          go_wp2_with fail
          refine (wrong_any g off b p 20 _ hR1 (by decide)).mono ?_
          rintro x w2 ⟨rfl, hR2, ho2⟩
          have h3 := hR2.c2
          go_wp2
          go_ret
          exact ⟨rfl, hR2, only4_trans ho1 ho2⟩
  · have ht : rdrStep ⟨#[]⟩ (textR (b.data.toList.drop p) most.toNat) p e = ((⟨#[]⟩ : ByteArray), p, e) := if_pos he
    rw [ht]
    have hs : rdrStep 0 (numR (b.data.toList.drop p) most.toNat 23) p e = (0, p, e) := if_pos he
    rw [hs] at hcall
    have hcb : (e == 0) = false := by rw [beq_eq_false_iff_ne]; exact he
    have HC := Lib.hid hcall
    clear hcall ht hs
    by_cases hneg : most < 0
    all_goals
      first | rw [if_pos hneg] at hx0 | rw [if_neg hneg] at hx0
      subst hx0
      go_enter Try.func33, Try.ntmps33
      go_wp2_with fail
      refine HC.out.mono ?_
      rintro x w1 ⟨rfl, hR1, ho1⟩
      have h2 := hR1.c2
      go_wp2
      go_ret
      exact ⟨rfl, hR1, ho1⟩
end Go.Proofs.Ytcladlebmoefgaa
