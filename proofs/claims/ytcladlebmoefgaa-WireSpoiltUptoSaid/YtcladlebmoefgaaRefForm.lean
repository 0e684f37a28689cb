/- gafferref02.form: what number stands at a place. -/
import Derived.Test.YtcladlebmoefgaaRef
namespace Go.Proofs.Ytcladlebmoefgaa
open Go.RowKit

theorem run_index_byte {P : Program} {T : TypeId} (w : World) (hT : P.underlying T = some .string) (b : ByteArray) (j : Nat) (hj : j < b.size) :
    (Instr.index T (.string b) (.int .i64 (j : Int))).run P w = .ok (.int .u8 ((b[j]'hj).toNat : Int)) w := by
  go_simp

theorem byte_at {b : ByteArray} {p k : Nat} {L : List UInt8} (hL : L = b.data.toList.drop p) (hk : k < L.length) : ∃ h : p + k < b.size, b[p + k]'h = L[k] := by
  subst hL
  have h : p + k < b.size := by
    rw [List.length_drop, Array.length_toList] at hk
    have : b.size = b.data.size := rfl
    omega
  refine ⟨h, ?_⟩
  rw [List.getElem_drop]
  rfl

theorem num_value2 (k acc c : Nat) (hk : k < 10) (ha : acc < 128 ^ k) (hc : c < 256) (h9 : k < 9 ∨ c ≤ 1) :
    bits .or .u64 (acc : Int) (IntKind.u64.wrap ((c : Int) % 128 * 2 ^ (7 * k))) = ((acc + c % 128 * 128 ^ k : Nat) : Int) := by
  have h := num_value k acc c hk ha hc h9
  have e1 : bits .and .u8 (c : Int) 127 = ((c % 128 : Nat) : Int) := by
    have h := u8_and_nat c 127 hc (by omega)
    rw [show c &&& 127 = c % 128 from Nat.and_two_pow_sub_one_eq_mod c 7] at h
    exact h
  rw [e1, IntWalk.u64_in ((c % 128 : Nat) : Int) (by omega)] at h
  exact h

def formVal (p : Nat) (r : Except Int (Nat × Nat)) : Value :=
  match r with
  | .ok (n, k) => .tuple #[.int .u64 (n : Int), .int .i64 ((p + k : Nat) : Int), .int .i64 0]
  | .error c => .tuple #[.int .u64 0, .int .i64 0, .int .i64 c]

set_option maxHeartbeats 2000000 in
theorem form_any (b : ByteArray) (p : Nat) (w : World) (hp : p ≤ b.size) (hb : b.size < 4294967296) :
    Calls Try.prog 80 #[.string b, .int .i64 (p : Int)] w fun x w' => x = .returned (formVal p (rdv 0 0 (b.data.toList.drop p))) ∧ ∃ n, w' = w.drewN n := by
  obtain ⟨L, hL⟩ : ∃ L, L = b.data.toList.drop p := ⟨_, rfl⟩
  have hLs : L.length = b.size - p := by rw [hL, List.length_drop]; rfl
  have HL := Lib.hid hL
  have HS := Lib.hid hLs
  rw [← hL]
  clear hL hLs
  go_enter Try.func80, Try.ntmps80
  go_wp2
  go_loopw [7, 8] (fun n i wr => ∃ (k acc : Nat) (x : Int), k ≤ 10 ∧ i = .int .i64 (k : Int) ∧ n = .int .u64 x ∧ Hid (k < 10 → x = acc ∧ acc < 128 ^ k) ∧ k ≤ L.length ∧ Hid (rdv 0 0 L = rdv k acc (L.drop k)) ∧ ∃ nd, wr = w.drewN nd)
    (fun _ i _ => 10 - (intOf i).toNat)
  case atStart => exact ⟨0, 0, 0, by omega, rfl, rfl, fun _ => ⟨rfl, by decide⟩, by omega, rfl, 0, rfl⟩
  case round =>
    obtain ⟨k, acc, x, hk, rfl, rfl, hacc, hkl, hrd, nd, rfl⟩ := hrel
    by_cases h10 : k < 10
    · obtain ⟨rfl, ha⟩ := hacc.out h10
      by_cases hlen : k < L.length
      · have hsz : ¬ (b.size : Int) ≤ p + k := by have := HS.out; omega
        obtain ⟨c, hc⟩ : ∃ c, c = L[k] := ⟨_, rfl⟩
        have hc6 : c.toNat < 256 := c.toNat_lt
        have HC := Lib.hid hc
        have hix : ∀ wx : World, (Instr.index 9 (.string b) (.int .i64 ((p : Int) + (k : Int)))).run Try.prog wx = .ok (.int .u8 (c.toNat : Int)) wx := fun wx => by
          obtain ⟨hj, hb⟩ := byte_at HL.out hlen
          have h := run_index_byte (P := Try.prog) wx Try.underlying9 b (p + k) hj
          rw [hb, ← hc] at h
          exact h
        clear hc
        have HV : Hid (k < 9 ∨ c.toNat ≤ 1 → _) := num_value2 k acc c.toNat h10 ha hc6
        by_cases hbig : (128 : Int) ≤ c.toNat
        · go_wp2
          refine ⟨⟨k + 1, acc + c.toNat % 128 * 128 ^ k, _, by omega, by go_num, rfl, fun h => ⟨HV.out (.inl (by omega)), acc_lt ha⟩, by omega, ?_, nd, rfl⟩, by simp [intOf]; omega⟩
          have hc := HC.out
          subst hc
          exact hrd.out.trans (rdv_more h10 hlen (by omega))
        · by_cases hbad : (0 < k ∧ c.toNat = 0) ∨ (k = 9 ∧ 1 < c.toNat)
          · have hr : Hid (rdv 0 0 L = .error 22) := hrd.out.trans (rdv_form h10 hlen (by have := HC.out; subst this; omega) (by have := HC.out; subst this; exact hbad))
            rcases hbad with ⟨h1, h2⟩ | ⟨h9, h2⟩
            · have t1 : (0 : Int) < k := by omega
              have t2 : ((c.toNat : Int) == 0) = true := by simp [h2]
              clear h2
              go_wp2
              go_ret3
              rw [hr.out]
              exact ⟨rfl, _, rfl⟩
            · have t2 : ((c.toNat : Int) == 0) = false := by rw [beq_eq_false_iff_ne]; omega
              have t3 : (1 : Int) < c.toNat := by omega
              have t4 : ((k : Int) == 9) = true := by simp [h9]
              clear h9
              go_wp2
              go_ret3
              rw [hr.out]
              exact ⟨rfl, _, rfl⟩
          · have hr : Hid (rdv 0 0 L = .ok (acc + c.toNat * 128 ^ k, k + 1)) := hrd.out.trans (by have := HC.out; subst this; exact rdv_ok h10 hlen (by omega) hbad)
            have h9 : k < 9 ∨ c.toNat ≤ 1 := by omega
            have hv := HV.out h9
            rw [show c.toNat % 128 = c.toNat from by omega] at hv
            obtain ⟨V, hV⟩ : ∃ V, V = acc + c.toNat * 128 ^ k := ⟨_, rfl⟩
            rw [← hV] at hv hr
            clear hV
            have fin : ∀ nn : Nat, Ending.returned (Value.tuple #[.int .u64 (V : Int), .int .i64 ((p : Int) + k + 1), .int .i64 0]) = .returned (formVal p (rdv 0 0 L)) ∧ ∃ n, w.drewN nn = w.drewN n := fun nn => by
              rw [hr.out]
              exact ⟨rfl, _, rfl⟩
            have HF := Lib.hid fin
            have HVV := Lib.hid hv
            clear fin hr hv
            rcases (show k < 1 ∨ (0 < k ∧ k < 9) ∨ 8 < k from by omega) with h1 | ⟨h1, h2⟩ | h1
            · have t1 : ¬ (0 : Int) < k := by omega
              have t3 : ((k : Int) == 9) = false := by rw [beq_eq_false_iff_ne]; omega
              have HV0 : Hid (bits .or .u64 (acc : Int) (IntKind.u64.wrap ((c.toNat : Int) % 128)) = V) := by
                obtain rfl : k = 0 := by omega
                exact Lib.hid (by simpa using HVV.out)
              have HF0 : Hid (∀ nn : Nat, Ending.returned (Value.tuple #[.int .u64 (V : Int), .int .i64 ((p : Int) + 1), .int .i64 0]) = .returned (formVal p (rdv 0 0 L)) ∧ ∃ n, w.drewN nn = w.drewN n) := by
                obtain rfl : k = 0 := by omega
                exact Lib.hid (by simpa using HF.out)
              by_cases h0 : c.toNat = 0
              · have t2 : ((c.toNat : Int) == 0) = true := by simp [h0]
                clear h0
                go_wp2
                all_goals (go_ret3; first | (rw [HVV.out]; exact HF.out _) | (rw [HV0.out]; exact HF0.out _) | (rw [HV0.out]; exact HF.out _))
              · have t2 : ((c.toNat : Int) == 0) = false := by rw [beq_eq_false_iff_ne]; omega
                go_wp2
                all_goals (go_ret3; first | (rw [HVV.out]; exact HF.out _) | (rw [HV0.out]; exact HF0.out _) | (rw [HV0.out]; exact HF.out _))
            · have t2 : ((c.toNat : Int) == 0) = false := by rw [beq_eq_false_iff_ne]; omega
              have t3 : ((k : Int) == 9) = false := by rw [beq_eq_false_iff_ne]; omega
              go_wp2
              all_goals (go_ret3; rw [HVV.out]; exact HF.out _)
            · have t2 : ((c.toNat : Int) == 0) = false := by rw [beq_eq_false_iff_ne]; omega
              have t3 : ((k : Int) == 9) = true := by rw [beq_iff_eq]; omega
              have t4 : ¬ (1 : Int) < c.toNat := by omega
              go_wp2
              all_goals (go_ret3; rw [HVV.out]; exact HF.out _)
      · have hsz : (b.size : Int) ≤ p + k := by have := HS.out; omega
        have hr : Hid (rdv 0 0 L = .error 20) := hrd.out.trans (rdv_short h10 (by omega))
        go_wp2
        go_ret3
        rw [hr.out]
        exact ⟨rfl, _, rfl⟩
    · obtain rfl : k = 10 := by omega
      have hr : Hid (rdv 0 0 L = .error 22) := hrd.out.trans (rdv_ten _ _)
      go_wp2
      go_ret3
      rw [hr.out]
      exact ⟨rfl, _, rfl⟩
end Go.Proofs.Ytcladlebmoefgaa
