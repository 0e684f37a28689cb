/- The literal of Bits: eight bytes as a number. -/
import Derived.Test.YtpnfdmglhonkmaaReads
set_option maxRecDepth 100000
namespace Go.Proofs.Ytpnfdmglhonkmaa
open Go.RowKit

def bitsR (l : List UInt8) : Except Int (Int × Nat) := if 8 ≤ l.length then .ok ((bitsOf (l.take 8) : Int), 8) else .error 20

theorem take8 {b : ByteArray} {p : Nat} (h : 8 ≤ (b.data.toList.drop p).length) : b.extract p (p + 8) = str ((b.data.toList.drop p).take 8) ∧ p + 8 ≤ b.size := by
  constructor
  · apply ByteArray.ext
    apply Array.toList_inj.1
    rw [ByteArray.data_extract, Array.toList_extract, List.extract_eq_take_drop]
    simp [str]
  · rw [List.length_drop, Array.length_toList] at h
    have : b.size = b.data.size := rfl
    omega

theorem bits_step {l : List UInt8} {k : Nat} (h : k < l.length) (h8 : k < 8) :
    bits .or .u64 (IntKind.u64.wrap ((bitsOf (l.take k) : Int) * 256)) ((l[k]).toNat : Int) = (bitsOf (l.take (k + 1)) : Int) := by
  have hc := (l[k]).toNat_lt
  have hb : bitsOf (l.take k) < 72057594037927936 := Nat.lt_of_lt_of_le (bitsOf_lt k l) (by
    match k, h8 with
    | 0, _ | 1, _ | 2, _ | 3, _ | 4, _ | 5, _ | 6, _ | 7, _ => decide)
  have e : ((bitsOf (l.take k) : Int) * 256) = ((bitsOf (l.take k) * 256 : Nat) : Int) := by omega
  rw [e, IntWalk.u64_in ((bitsOf (l.take k) * 256 : Nat) : Int) (by omega), u64_or_nat _ _ (by omega) (by omega), bitsOf_take h]
  congr 1
  have h2 := Nat.two_pow_add_eq_or_of_lt (i := 8) (b := (l[k]).toNat) hc (bitsOf (l.take k))
  rw [Nat.mul_comm] at h2
  exact h2.symm

set_option maxHeartbeats 1000000 in
theorem bits_lit (rb g : Nat) (b : ByteArray) (p : Nat) (w : World) (hB : w.heap[rb]? = some (.cells #[.pointer (some ⟨g, 0, none⟩)] 70 (0, 0)))
    (hR : Rdr w g b p 0) (hp : p ≤ b.size) (hb : b.size < 4294967296) :
    Calls Try.prog 93 #[.pointer (some ⟨rb, 0, none⟩)] w (ReadPost (Value.int .u64) g b p (bitsR (b.data.toList.drop p)) w) := by
  have h1 := cell_of_one hB
  clear hB
  unfold bitsR
  by_cases h8 : 8 ≤ (b.data.toList.drop p).length
  · rw [if_pos h8]
    obtain ⟨hx, hsz⟩ := take8 h8
    obtain ⟨l, hl⟩ : ∃ l, l = (b.data.toList.drop p).take 8 := ⟨_, rfl⟩
    have hll : l.length = 8 := by rw [hl, List.length_take]; omega
    rw [← hl] at hx ⊢
    clear hl h8
    have HX := Lib.hid hx
    have HL := Lib.hid hll
    clear hx hll
    go_enter Try.func93, Try.ntmps93
    go_wp2_with fail
    refine (take_ok g b p 8 0 w hR hsz hb).mono ?_
    rintro x w1 ⟨rfl, hR1, hg1⟩
    rw [HX.out]
    obtain ⟨cap, w2, hcv, hcell, hb2⟩ := run_bytes_of (P := Try.prog) w1 9 103 5 (str l) Try.underlying9 Try.underlying103 Try.underlying5
    rw [show (str l).size = 8 from HL.out] at hcv
    have HC := Lib.hid hcell
    clear hcell
    go_wp2
    have hfin : Rdr w2 g b (p + 8) 0 ∧ w.grownBy w2 (some g) := ⟨hR1.below hb2 hR1.lt, only_trans hg1 (only_of_below hb2 _)⟩
    have HF := Lib.hid hfin
    clear hfin hcv
    go_loop [2, 9] (fun n i => ∃ k : Nat, k ≤ 8 ∧ i = .int .i64 (k : Int) ∧ n = .int .u64 (bitsOf (l.take k) : Int)) (fun _ i => 8 - (intOf i).toNat)
    case atStart => exact ⟨0, by omega, rfl, by simp [bitsOf]⟩
    case round =>
      obtain ⟨k, hk, rfl, rfl⟩ := hrel
      by_cases hlt : k < 8
      · have hkl : k < l.length := by have := HL.out; omega
        have hc := HC.out k l[k] (by simp [str, List.getElem?_eq_getElem hkl])
        unfold B at hc
        have hv := Lib.hid (bits_step hkl hlt)
        go_wp2
        refine ⟨⟨k + 1, by omega, by go_num, ?_⟩, by simp [intOf]; omega⟩
        have hc6 := (l[k]).toNat_lt
        rw [IntWalk.u64_in ((l[k]).toNat : Int) (by omega), hv.out]
      · obtain rfl : k = 8 := by omega
        go_wp2
        go_ret
        refine ⟨?_, HF.out⟩
        rw [List.take_of_length_le (by have := HL.out; omega)]
        rfl
  · rw [if_neg h8]
    have hsz : b.size < p + 8 := by
      rw [List.length_drop, Array.length_toList] at h8
      have : b.size = b.data.size := rfl
      omega
    go_enter Try.func93, Try.ntmps93
    go_wp2_with fail
    refine (take_short g b p 8 0 w hR hsz hp hb (by omega)).mono ?_
    rintro x w1 ⟨rfl, hR1, hg1⟩
    exact ⟨rfl, rfl, ⟨_, hR1⟩, hg1⟩
end Go.Proofs.Ytpnfdmglhonkmaa
