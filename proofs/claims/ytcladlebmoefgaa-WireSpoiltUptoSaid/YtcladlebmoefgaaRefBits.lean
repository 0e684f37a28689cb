/- The reference's reader: Bits, End. -/
import Derived.Test.YtcladlebmoefgaaMore
import Derived.Test.YtcladlebmoefgaaRefMeth
namespace Go.Proofs.Ytcladlebmoefgaa
open Go.RowKit

set_option maxHeartbeats 2000000 in
theorem fBits (g off : Nat) (b : ByteArray) (p : Nat) (e : Int) (w : World) (hR : Ref w g off b p e (fa e p)) (hp : p ≤ b.size) (hb : b.size < 4294967296) :
    Calls Try.prog 32 #[.pointer (some ⟨g, off, none⟩)] w (RefPost (Value.int .u64) g off b (rdrStep 0 (bitsR (b.data.toList.drop p)) p e) w) := by
  have h0 := hR.c0
  have h1 := hR.c1
  have h2 := hR.c2
  have f1 := hR.fz (off + 1)
  by_cases he : e = 0
  · subst he
    by_cases h8 : 8 ≤ (b.data.toList.drop p).length
    · have hn : rdrStep 0 (bitsR (b.data.toList.drop p)) p 0 = ((bitsOf ((b.data.toList.drop p).take 8) : Int), p + 8, 0) := by unfold bitsR; rw [if_pos h8]; rfl
      rw [hn]
      clear hn
      have hsz : p + 8 ≤ b.size := by
        rw [drop_len] at h8
        omega
      have hlt : ¬ (b.size : Int) - p < 8 := by omega
      obtain ⟨l, hl⟩ : ∃ l, l = (b.data.toList.drop p).take 8 := ⟨_, rfl⟩
      have hll : l.length = 8 := by rw [hl, List.length_take]; omega
      have hbyte : ∀ k (hk : k < l.length) (wx : World), (Instr.index 9 (.string b) (.int .i64 ((p : Int) + (k : Int)))).run Try.prog wx = .ok (.int .u8 ((l[k]).toNat : Int)) wx := fun k hk wx => by
        obtain ⟨hj, hb⟩ := byte_at (p := p) (b := b) rfl (show k < (b.data.toList.drop p).length by omega)
        have h := run_index_byte (P := Try.prog) wx Try.underlying9 b (p + k) hj
        rw [hb] at h
        have e1 : l[k] = (b.data.toList.drop p)[k]'(by omega) := by subst hl; exact List.getElem_take
        rw [e1]
        exact h
      rw [← hl]
      have HB := Lib.hid hbyte
      have HL := Lib.hid hll
      clear hl h8 hbyte hll
      go_enter Try.func32, Try.ntmps32
      go_wp2
      go_quiet (fail)
      go_wp2
      go_loopw [3, 4] (fun n i wr => ∃ k : Nat, k ≤ 8 ∧ i = .int .i64 (k : Int) ∧ n = .int .u64 (bitsOf (l.take k) : Int) ∧ ∃ nd, wr = w.drewN nd) (fun _ i _ => 8 - (intOf i).toNat)
      case atStart => exact ⟨0, by omega, rfl, by simp [bitsOf], _, rfl⟩
      case round =>
        obtain ⟨k, hk, rfl, rfl, nd, rfl⟩ := hrel
        by_cases hlt8 : k < 8
        · have hkl : k < l.length := by have := HL.out; omega
          have hix := HB.out k hkl
          have hv := Lib.hid (bits_step hkl hlt8)
          have hc6 := (l[k]).toNat_lt
          obtain ⟨c, hc⟩ : ∃ c : Int, c = ((l[k]).toNat : Int) := ⟨_, rfl⟩
          have hc7 : 0 ≤ c ∧ c < 256 := by omega
          have HC := Lib.hid hc
          rw [← hc] at hix hv
          clear hc hc6
          go_wp2
          go_quiet (fail)
          go_wp2
          refine ⟨⟨k + 1, by omega, by go_num, ?_, _, rfl⟩, by simp [intOf]; omega⟩
          have hc := HC.out
          subst hc
          rw [hv.out]
        · obtain rfl : k = 8 := by omega
          rw [List.take_of_length_le (by have := HL.out; omega)]
          go_wp2
          go_ret
          exact ⟨rfl, (hR.drewN _).set1 (p + 8), only4_set (only4_drewN (only4_refl _ _ _) _) ⟨by omega, by omega⟩ _⟩
    · have hn : rdrStep 0 (bitsR (b.data.toList.drop p)) p 0 = (0, p, 20) := by unfold bitsR; rw [if_neg h8]; rfl
      rw [hn]
      clear hn
      have hlt : (b.size : Int) - p < 8 := by
        rw [drop_len] at h8
        omega
      go_enter Try.func32, Try.ntmps32
      go_wp2
      go_quiet (fail)
      go_wp2_with fail
      refine (wrong_any g off b p 20 _ (hR.drewN _) (by decide)).mono ?_
      rintro x w2 ⟨rfl, hR2, ho2⟩
      have h3 := hR2.c2
      go_wp2
      go_ret
      exact ⟨rfl, hR2, only4_trans (only4_drewN (only4_refl _ _ _) _) ho2⟩
  · have hn : rdrStep 0 (bitsR (b.data.toList.drop p)) p e = (0, p, e) := if_pos he
    rw [hn]
    clear hn
    have hcb : (e == 0) = false := by rw [beq_eq_false_iff_ne]; exact he
    go_enter Try.func32, Try.ntmps32
    go_wp2
    go_quiet (fail)
    go_wp2
    go_ret
    exact ⟨rfl, hR.drewN _, only4_drewN (only4_refl _ _ _) _⟩

set_option maxHeartbeats 1000000 in
theorem fEnd (g off : Nat) (b : ByteArray) (p : Nat) (e : Int) (w : World) (hR : Ref w g off b p e (fa e p)) :
    Calls Try.prog 34 #[.pointer (some ⟨g, off, none⟩)] w fun x w' => x = .returned (.tuple #[.int .i64 (endE b p e), .int .i64 (endP b p e)]) ∧ ∃ n, w' = w.drewN n := by
  have r0 := hR.c0
  have r1 := hR.c1
  have r2 := hR.c2
  have r3 := hR.c3
  by_cases he : e = 0
  · subst he
    rw [fa_zero] at r3
    by_cases hlt : p < b.size
    · have hi : (p : Int) < b.size := by omega
      rw [show endE b p 0 = 24 from if_pos ⟨rfl, hlt⟩, show endP b p 0 = p from if_neg (by simp [hlt])]
      go_enter Try.func34, Try.ntmps34
      go_wp2
      go_quiet (fail)
      go_wp2
      go_quiet (fail)
      go_wp2
      go_ret2
      exact ⟨rfl, _, by first | rfl | (simp [World.drewN_drewN]; rfl)⟩
    · have hi : ¬ (p : Int) < b.size := by omega
      have hd : decide ((p : Int) < b.size) = false := by simpa using hlt
      rw [show endE b p 0 = 0 from if_neg (by simp [hlt]), show endP b p 0 = 0 from if_pos ⟨rfl, hlt⟩]
      go_enter Try.func34, Try.ntmps34
      go_wp2
      go_quiet (fail)
      go_wp2
      go_quiet (fail)
      go_wp2
      go_ret2
      exact ⟨rfl, _, by first | rfl | (simp [World.drewN_drewN]; rfl)⟩
  · have hcb : (e == 0) = false := by rw [beq_eq_false_iff_ne]; exact he
    rw [show endE b p e = e from if_neg (by simp [he]), show endP b p e = p from if_neg (by simp [he])]
    rw [show fa e p = (p : Int) from if_neg he] at r3
    go_enter Try.func34, Try.ntmps34
    go_wp2
    go_quiet (fail)
    go_wp2
    go_quiet (fail)
    go_wp2
    go_ret2
    exact ⟨rfl, _, by first | rfl | (simp [World.drewN_drewN]; rfl)⟩
end Go.Proofs.Ytcladlebmoefgaa
