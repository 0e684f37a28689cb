/- (*pack.Reader).number: the next number, or the panic that says why there is none. -/
import Derived.Test.YtpnfdmglhonkmaaTake
import Derived.Laws.BitsAllLaws
set_option maxRecDepth 100000
namespace Go.Proofs.Ytpnfdmglhonkmaa
open Go.RowKit

def NumPost (g : Nat) (b : ByteArray) (p : Nat) (e : Int) (r : Except Int (Nat × Nat)) (w : World) (x : Ending) (w' : World) : Prop :=
  match r with
  | .ok (n, k) => x = .returned (.int .u64 (n : Int)) ∧ Rdr w' g b (p + k) e ∧ w.grownBy w' (some g)
  | .error c => x = .panicked (gave c) ∧ (∃ q, Rdr w' g b q e) ∧ w.grownBy w' (some g)

theorem or_add (a c k : Nat) (ha : a < 128 ^ k) : a ||| c * 128 ^ k = a + c * 128 ^ k := by
  have e : (128 : Nat) ^ k = 2 ^ (7 * k) := by rw [Nat.pow_mul]
  rw [e] at ha ⊢
  rw [Nat.or_comm, Nat.mul_comm c, ← Nat.two_pow_add_eq_or_of_lt ha]
  omega

theorem num_value (k acc c : Nat) (hk : k < 10) (ha : acc < 128 ^ k) (hc : c < 256) (h9 : k < 9 ∨ c ≤ 1) :
    bits .or .u64 (acc : Int) (IntKind.u64.wrap (IntKind.u64.wrap (bits .and .u8 (c : Int) 127) * 2 ^ (7 * k))) = ((acc + c % 128 * 128 ^ k : Nat) : Int) := by
  have e1 : bits .and .u8 (c : Int) 127 = ((c % 128 : Nat) : Int) := by
    have h := u8_and_nat c 127 hc (by omega)
    rw [show c &&& 127 = c % 128 from Nat.and_two_pow_sub_one_eq_mod c 7] at h
    exact h
  have hb : c % 128 * 128 ^ k + 128 ^ k ≤ 18446744073709551616 ∧ c % 128 * 128 ^ k < 18446744073709551616 := by
    match k, hk with
    | 0, _ | 1, _ | 2, _ | 3, _ | 4, _ | 5, _ | 6, _ | 7, _ | 8, _ => constructor <;> omega
    | 9, _ =>
      have : c % 128 ≤ 1 := by omega
      constructor <;> omega
  have e2 : ((c % 128 : Nat) : Int) * 2 ^ (7 * k) = ((c % 128 * 128 ^ k : Nat) : Int) := by
    rw [Int.natCast_mul, show (128 : Nat) ^ k = 2 ^ (7 * k) from by rw [Nat.pow_mul], Int.natCast_pow]
    rfl
  rw [e1, IntWalk.u64_in ((c % 128 : Nat) : Int) (by omega), e2, IntWalk.u64_in ((c % 128 * 128 ^ k : Nat) : Int) (by omega), u64_or_nat _ _ (by omega) (by omega), or_add _ _ _ ha]

theorem acc_lt {k acc c : Nat} (ha : acc < 128 ^ k) : acc + c % 128 * 128 ^ k < 128 ^ (k + 1) := by
  rw [Nat.pow_succ]
  have : c % 128 * 128 ^ k ≤ 127 * 128 ^ k := Nat.mul_le_mul_right _ (by omega)
  omega

theorem numR_ok {l : List UInt8} {most n k : Nat} {over : Int} (h : rdv 0 0 l = .ok (n, k)) (hm : n ≤ most) : numR l most over = .ok (n, k) := by simp [numR, h, hm]
theorem numR_over {l : List UInt8} {most n k : Nat} {over : Int} (h : rdv 0 0 l = .ok (n, k)) (hm : most < n) : numR l most over = .error over := by
  have : ¬ n ≤ most := by omega
  simp [numR, h, this]
theorem numR_bad {l : List UInt8} {most : Nat} {over x : Int} (h : rdv 0 0 l = .error x) : numR l most over = .error x := by simp [numR, h]

section
variable {g : Nat} {b : ByteArray} {p : Nat} {e : Int} {w w' : World} {l : List UInt8} {most : Nat} {over : Int}
theorem post_bad {c : Int} {q : Nat} (h : rdv 0 0 l = .error c) (hR : Rdr w' g b q e) (hg : w.grownBy w' (some g)) : NumPost g b p e (numR l most over) w (.panicked (gave c)) w' := by
  rw [numR_bad h]; exact ⟨rfl, ⟨_, hR⟩, hg⟩
theorem post_over {q n k : Nat} (h : rdv 0 0 l = .ok (n, k)) (hm : most < n) (hR : Rdr w' g b q e) (hg : w.grownBy w' (some g)) : NumPost g b p e (numR l most over) w (.panicked (gave over)) w' := by
  rw [numR_over h hm]; exact ⟨rfl, ⟨_, hR⟩, hg⟩
theorem post_ok {n k : Nat} (h : rdv 0 0 l = .ok (n, k)) (hm : n ≤ most) (hR : Rdr w' g b (p + k) e) (hg : w.grownBy w' (some g)) : NumPost g b p e (numR l most over) w (.returned (.int .u64 (n : Int))) w' := by
  rw [numR_ok h hm]; exact ⟨rfl, hR, hg⟩
end

set_option maxHeartbeats 2000000 in
theorem number_any (g : Nat) (b : ByteArray) (p : Nat) (e : Int) (most : Nat) (over : Int) (w : World) (hR : Rdr w g b p e) (hp : p ≤ b.size) (hb : b.size < 4294967296) (_hm : most < 18446744073709551616) :
    Calls Try.prog 31 #[.pointer (some ⟨g, 0, none⟩), .int .u64 (most : Int), .int .i64 over] w (NumPost g b p e (numR (b.data.toList.drop p) most over) w) := by
  obtain ⟨L, hL⟩ : ∃ L, L = b.data.toList.drop p := ⟨_, rfl⟩
  have hLs : L.length = b.size - p := by rw [hL, List.length_drop]; rfl
  have HL := Lib.hid hL
  have HS := Lib.hid hLs
  rw [← hL]
  clear hL hLs
  go_enter Try.func31, Try.ntmps31
  go_wp2
  go_loopw [7, 10] (fun n i wr => ∃ (k acc : Nat) (x : Int), k ≤ 10 ∧ i = .int .i64 (k : Int) ∧ n = .int .u64 x ∧ Hid (k < 10 → x = acc ∧ acc < 128 ^ k) ∧ k ≤ L.length ∧ Hid (rdv 0 0 L = rdv k acc (L.drop k)) ∧ Rdr wr g b (p + k) e ∧ w.grownBy wr (some g))
    (fun _ i _ => 10 - (intOf i).toNat)
  case atStart => exact ⟨0, 0, 0, by omega, rfl, rfl, fun _ => ⟨rfl, by decide⟩, by omega, rfl, hR, only_refl _ _⟩
  case round =>
    obtain ⟨k, acc, x, hk, rfl, rfl, hacc, hkl, hrd, hRk, hgk⟩ := hrel
    by_cases h10 : k < 10
    · obtain ⟨rfl, ha⟩ := hacc.out h10
      by_cases hlen : k < L.length
      · have hsz : p + k + 1 ≤ b.size := by have := HS.out; omega
        obtain ⟨c, hc⟩ : ∃ c, c = L[k] := ⟨_, rfl⟩
        have hc6 : c.toNat < 256 := c.toNat_lt
        have HC := Lib.hid hc
        have hx1 := extract_one HL.out hlen
        rw [← hc] at hx1
        have HX := Lib.hid hx1
        clear hc hx1
        go_wp2_with fail
        refine (take_ok g b (p + k) 1 e _ hRk hsz hb).mono ?_
        rintro r w1 ⟨rfl, hR1, hg1⟩
        rw [HX.out]
        have hone : ∀ h : 0 < (ByteArray.mk #[c]).size, (ByteArray.mk #[c])[0]'h = c := fun _ => rfl
        have HV : Hid (k < 9 ∨ c.toNat ≤ 1 → _) := num_value k acc c.toNat h10 ha hc6
        by_cases hbig : (127 : Int) < c.toNat
        · go_wp2
          refine ⟨⟨k + 1, acc + c.toNat % 128 * 128 ^ k, _, by omega, by go_num, rfl, fun h => ⟨HV.out (.inl (by omega)), acc_lt ha⟩, by omega, ?_, hR1, only_trans hgk hg1⟩, by simp [intOf]; omega⟩
          have hc := HC.out
          subst hc
          exact hrd.out.trans (rdv_more h10 hlen (by omega))
        · by_cases hbad : (0 < k ∧ c.toNat = 0) ∨ (k = 9 ∧ 1 < c.toNat)
          · have hr : Hid (rdv 0 0 L = .error 22) := hrd.out.trans (rdv_form h10 hlen (by have := HC.out; subst this; omega) (by have := HC.out; subst this; exact hbad))
            rcases hbad with ⟨h1, h2⟩ | ⟨rfl, h2⟩
            · have t1 : (0 : Int) < k := by omega
              have t2 : ((c.toNat : Int) == 0) = true := by simp [h2]
              clear h2
              go_wp2
              all_goals exact ⟨rfl, post_bad hr.out hR1 (only_trans hgk hg1)⟩
            · have t2 : ((c.toNat : Int) == 0) = false := by rw [beq_eq_false_iff_ne]; omega
              have t3 : (1 : Int) < c.toNat := by omega
              go_wp2
              all_goals exact ⟨rfl, post_bad hr.out hR1 (only_trans hgk hg1)⟩
          · have hr : Hid (rdv 0 0 L = .ok (acc + c.toNat * 128 ^ k, k + 1)) := hrd.out.trans (by have := HC.out; subst this; exact rdv_ok h10 hlen (by omega) hbad)
            have h9 : k < 9 ∨ c.toNat ≤ 1 := by omega
            have hv := HV.out h9
            rw [show c.toNat % 128 = c.toNat from by omega] at hv
            obtain ⟨V, hV⟩ : ∃ V, V = acc + c.toNat * 128 ^ k := ⟨_, rfl⟩
            rw [← hV] at hv hr
            clear hV
            have fin : ∀ wx : World, Rdr wx g b (p + k + 1) e → w.grownBy wx (some g) → (most < V → NumPost g b p e (numR L most over) w (.panicked (gave over)) wx) ∧ (V ≤ most → NumPost g b p e (numR L most over) w (.returned (.int .u64 (V : Int))) wx) := fun wx h1 h2 =>
              ⟨fun h => post_over hr.out h h1 h2, fun h => post_ok hr.out h h1 h2⟩
            have F := fin _ hR1 (only_trans hgk hg1)
            have HF := Lib.hid F
            clear fin F
            by_cases hmost : (most : Int) < V
            all_goals rcases (show k < 1 ∨ (0 < k ∧ k < 9) ∨ 8 < k from by omega) with h1 | ⟨h1, h2⟩ | h1
            · have t1 : ¬ (0 : Int) < k := by omega
              have t3 : ((k : Int) == 9) = false := by rw [beq_eq_false_iff_ne]; omega
              go_wp2
              all_goals exact ⟨rfl, HF.out.1 (by omega)⟩
            · have t2 : ((c.toNat : Int) == 0) = false := by rw [beq_eq_false_iff_ne]; omega
              have t3 : ((k : Int) == 9) = false := by rw [beq_eq_false_iff_ne]; omega
              go_wp2
              all_goals exact ⟨rfl, HF.out.1 (by omega)⟩
            · have t2 : ((c.toNat : Int) == 0) = false := by rw [beq_eq_false_iff_ne]; omega
              have t3 : ((k : Int) == 9) = true := by rw [beq_iff_eq]; omega
              have t4 : ¬ (1 : Int) < c.toNat := by omega
              go_wp2
              all_goals exact ⟨rfl, HF.out.1 (by omega)⟩
            · have t1 : ¬ (0 : Int) < k := by omega
              have t3 : ((k : Int) == 9) = false := by rw [beq_eq_false_iff_ne]; omega
              go_wp2
              go_ret
              exact HF.out.2 (by omega)
            · have t2 : ((c.toNat : Int) == 0) = false := by rw [beq_eq_false_iff_ne]; omega
              have t3 : ((k : Int) == 9) = false := by rw [beq_eq_false_iff_ne]; omega
              go_wp2
              go_ret
              exact HF.out.2 (by omega)
            · have t2 : ((c.toNat : Int) == 0) = false := by rw [beq_eq_false_iff_ne]; omega
              have t3 : ((k : Int) == 9) = true := by rw [beq_iff_eq]; omega
              have t4 : ¬ (1 : Int) < c.toNat := by omega
              go_wp2
              go_ret
              exact HF.out.2 (by omega)
      · have hsz : b.size < p + k + 1 := by have := HS.out; omega
        have hpk : p + k ≤ b.size := by have := HS.out; omega
        go_wp2_with fail
        refine (take_short g b (p + k) 1 e _ hRk hsz hpk hb (by omega)).mono ?_
        rintro r w1 ⟨rfl, hR1, hg1⟩
        exact ⟨rfl, post_bad (hrd.out.trans (rdv_short h10 (by omega))) hR1 (only_trans hgk hg1)⟩
    · obtain rfl : k = 10 := by omega
      have hr := hrd.out.trans (rdv_ten _ _)
      go_wp2
      exact ⟨rfl, post_bad hr hRk hgk⟩
end Go.Proofs.Ytpnfdmglhonkmaa
