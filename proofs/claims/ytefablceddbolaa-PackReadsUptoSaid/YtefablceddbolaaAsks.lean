/- asks: one call of a reader: it stays a reader of the same bytes, and one that has a fault stands and answers a nothing. -/
import Derived.Test.YtefablceddbolaaMeth
import Derived.Test.YtefablceddbolaaMore
namespace Go.Proofs.Ytefablceddbolaa
open Go.RowKit

theorem rdrStep_le {α : Type} {zero : α} {r : Except Int (α × Nat)} {p n : Nat} {e : Int} (hp : p ≤ n) (hr : ∀ v k, r = .ok (v, k) → p + k ≤ n) : (rdrStep zero r p e).2.1 ≤ n := by
  unfold rdrStep
  split
  · exact hp
  · cases r with
    | error c => exact hp
    | ok vk => obtain ⟨v, k⟩ := vk; exact hr v k rfl

theorem rdrStep_fault {α : Type} {zero : α} {r : Except Int (α × Nat)} {p : Nat} {e : Int} (he : e ≠ 0) : rdrStep zero r p e = (zero, p, e) := by
  unfold rdrStep
  rw [if_pos he]

theorem drop_len (b : ByteArray) (p : Nat) : (b.data.toList.drop p).length = b.size - p := by rw [List.length_drop]; rfl

theorem num_le {b : ByteArray} {p most : Nat} {over : Int} {v : Int} {k : Nat} (hp : p ≤ b.size) (h : upR (numR (b.data.toList.drop p) most over) = .ok (v, k)) : p + k ≤ b.size := by
  unfold upR at h
  cases hr : numR (b.data.toList.drop p) most over with
  | error c => rw [hr] at h; cases h
  | ok nk =>
    obtain ⟨n, j⟩ := nk
    have h1 := numR_len hr
    rw [hr] at h
    rw [drop_len] at h1
    simp at h
    omega

theorem text_le {b : ByteArray} {p most : Nat} {v : ByteArray} {k : Nat} (hp : p ≤ b.size) (h : textR (b.data.toList.drop p) most = .ok (v, k)) : p + k ≤ b.size := by
  unfold textR at h
  cases hr : numR (b.data.toList.drop p) most 23 with
  | error c => rw [hr] at h; cases h
  | ok nk =>
    obtain ⟨n, j⟩ := nk
    rw [hr] at h
    simp only [drop_len] at h
    split at h
    · injection h with h
      injection h with _ h
      omega
    · cases h

theorem bits_le {b : ByteArray} {p : Nat} {v : Int} {k : Nat} (hp : p ≤ b.size) (h : bitsR (b.data.toList.drop p) = .ok (v, k)) : p + k ≤ b.size := by
  unfold bitsR at h
  rw [drop_len] at h
  split at h
  · injection h with h
    injection h with _ h
    omega
  · cases h

/-- what a call leaves: a reader of the same bytes; where it had a fault it stands, and the answer is a nothing -/
def AskPost (g : Nat) (b : ByteArray) (p : Nat) (e : Int) (w : World) (x : Ending) (w' : World) : Prop :=
  ∃ (t : Bool) (q : Nat) (f : Int), x = .returned (.bool t) ∧ Rdr w' g b q f ∧ q ≤ b.size ∧ w.grownBy w' (some g) ∧ (e ≠ 0 → t = true ∧ q = p ∧ f = e)

theorem ask_of {α : Type} {zero : α} {r : Except Int (α × Nat)} {g : Nat} {b : ByteArray} {p : Nat} {e : Int} {w w1 w' : World} {t : Bool}
    (hR : Rdr w' g b (rdrStep zero r p e).2.1 (rdrStep zero r p e).2.2) (hg1 : w.grownBy w1 (some g)) (hg : w1.grownBy w' (some g)) (hp : p ≤ b.size) (hr : ∀ v k, r = .ok (v, k) → p + k ≤ b.size)
    (ht : (rdrStep zero r p e).1 = zero → t = true) : AskPost g b p e w (.returned (.bool t)) w' :=
  ⟨t, _, _, rfl, hR, rdrStep_le hp hr, only_trans hg1 hg, fun he => ⟨ht (by rw [rdrStep_fault he]), by rw [rdrStep_fault he], by rw [rdrStep_fault he]⟩⟩

set_option maxHeartbeats 1000000 in
theorem asks_any (g : Nat) (b : ByteArray) (p : Nat) (e : Int) (kd most : Int) (w : World) (hR : Rdr w g b p e) (hp : p ≤ b.size) (hb : b.size < 4294967296) (hm : -9223372036854775808 ≤ most ∧ most ≤ 9223372036854775807) :
    Calls Try.prog 25 #[.pointer (some ⟨g, 0, none⟩), .agg #[.int .i64 kd, .int .i64 most]] w (AskPost g b p e w) := by
  have hlt := hR.lt
  obtain ⟨W, hW⟩ : ∃ W, W = w.alloc (.cells #[.int .i64 kd, .int .i64 most] 51) := ⟨_, rfl⟩
  have hRW : Rdr W g b p e := by rw [hW]; exact hR.alloc _
  have hgW : w.grownBy W (some g) := by rw [hW]; exact only_alloc (only_refl _ _) _
  have HW := Lib.hid hW
  clear hW
  have hu : IntKind.u64.wrap most = ((most % 18446744073709551616).toNat : Int) := by
    rw [show IntKind.u64.wrap most = most % 18446744073709551616 from by simp [IntKind.wrap, IntKind.bits, IntKind.signed]]
    omega
  have HU := Lib.hid hu
  clear hu
  by_cases k1 : kd = 1
  · subst k1
    go_enter Try.func25, Try.ntmps25
    go_wp2_with fail
    rw [HU.out, ← HW.out]
    refine (rNum g b p e _ W hRW hp hb (by omega)).mono ?_
    rintro x w1 ⟨rfl, hR1, hg1⟩
    go_wp2
    go_ret
    exact ask_of hR1 hgW hg1 hp (fun v k h => num_le hp h) (fun h => by simp [h])
  · have t1 : (kd == 1) = false := by rw [beq_eq_false_iff_ne]; exact k1
    by_cases k2 : kd = 2
    · subst k2
      go_enter Try.func25, Try.ntmps25
      go_wp2_with fail
      rw [← HW.out]
      refine (rList g b p e _ W hRW hp hb hm.2).mono ?_
      rintro x w1 ⟨rfl, hR1, hg1⟩
      go_wp2
      go_ret
      exact ask_of hR1 hgW hg1 hp (fun v k h => num_le hp h) (fun h => by simp [h])
    · have t2 : (kd == 2) = false := by rw [beq_eq_false_iff_ne]; exact k2
      by_cases k3 : kd = 3
      · subst k3
        go_enter Try.func25, Try.ntmps25
        go_wp2_with fail
        rw [← HW.out]
        refine (rText g b p e _ W hRW hp hb hm.2).mono ?_
        rintro x w1 ⟨rfl, hR1, hg1⟩
        go_wp2
        go_ret
        exact ask_of hR1 hgW hg1 hp (fun v k h => text_le hp h) (fun h => by simp [h])
      · have t3 : (kd == 3) = false := by rw [beq_eq_false_iff_ne]; exact k3
        go_enter Try.func25, Try.ntmps25
        go_wp2_with fail
        rw [← HW.out]
        refine (rBits g b p e W hRW hp hb).mono ?_
        rintro x w1 ⟨rfl, hR1, hg1⟩
        go_wp2
        go_ret
        exact ask_of hR1 hgW hg1 hp (fun v k h => bits_le hp h) (fun h => by simp [h])
end Go.Proofs.Ytefablceddbolaa
