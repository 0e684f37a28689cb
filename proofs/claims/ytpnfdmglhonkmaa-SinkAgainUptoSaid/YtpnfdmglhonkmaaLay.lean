/- What lays: the reference's Num; Text, Bits of both. -/
import Derived.Test.YtpnfdmglhonkmaaNum
set_option maxRecDepth 100000
namespace Go.Proofs.Ytpnfdmglhonkmaa
open Go.RowKit

theorem rnum_byte (m : Nat) : Value.int .u8 ((m : Int) % 128 + 128) = B (UInt8.ofNat (m % 128 + 128)) := by
  rw [← B_of _ (by omega)]
  congr 1


/-- the form of a text -/
def tb (l : List UInt8) : List UInt8 := vb l.length ++ l

theorem str_cat (s : ByteArray) : str (vb s.size) ++ s = str (tb s.data.toList) := by
  apply ByteArray.ext
  apply Array.toList_inj.1
  simp [str, tb]

set_option maxHeartbeats 400000 in
theorem Text_any (s : ByteArray) (w : World) (hs : s.size < 4611686018427387904) :
    Calls Try.prog 64 #[.string s] w fun e w' => e = .returned (.string (str (tb s.data.toList))) ∧ Below w.heap.size w w' := by
  have hcat : str (vb s.size) ++ s = str (tb s.data.toList) := str_cat s
  have HC := Lib.hid hcat
  have hsz : (str (vb s.size)).size ≤ 10 := by rw [str_size]; exact vb_len10 _ (by omega)
  clear hcat
  go_enter Try.func64, Try.ntmps64
  go_wp2_with fail
  refine (Num_any s.size _ (by omega)).mono ?_
  rintro e w1 ⟨rfl, hb⟩
  go_wp2
  go_ret
  exact ⟨congrArg (fun x => Ending.returned (Value.string x)) HC.out, hb⟩


theorem bb_byte (n k : Nat) : Value.int .u8 ((n : Int) / 2 ^ (56 - 8 * k) % 256) = B (UInt8.ofNat (n / 2 ^ (56 - 8 * k) % 256)) := by
  rw [← B_of _ (Nat.mod_lt _ (by decide))]
  congr 1

theorem bb_take (n k : Nat) (hk : k < 8) : (bb n).take (k + 1) = (bb n).take k ++ [UInt8.ofNat (n / 2 ^ (56 - 8 * k) % 256)] := by
  rw [List.take_succ_eq_append_getElem (by rw [bb_len]; exact hk)]
  simp [bb]

theorem bb_next {w1 : World} {base n k : Nat} {v : Value} (hk : k < 8) (ho : w1.ownsRow base 5 1 v (k + 1) (((bb n).take k).map B ++ [Value.int .u8 ((n : Int) / 2 ^ (56 - 8 * k) % 256)])) :
    w1.ownsRow base 5 1 v (k + 1) (((bb n).take (k + 1)).map B) := by
  rw [bb_take n k hk, List.map_append]
  rw [bb_byte] at ho
  exact ho

theorem bb_end {w1 : World} {base n k : Nat} {v : Value} (hk : ¬ k < 8) (h8 : k ≤ 8) (ho : w1.ownsRow base 5 1 v k (((bb n).take k).map B)) :
    (convert 103 9 v).run Try.prog w1 = .ok (.string (str (bb n))) w1 := by
  obtain rfl : k = 8 := by omega
  rw [List.take_of_length_le (by rw [bb_len]; omega)] at ho
  exact conv_own ho

set_option maxRecDepth 100000 in
theorem bits_conv (n : Nat) (w : World) (hn : n < 18446744073709551616) :
    (convert 103 9 (.slice (some ⟨w.heap.size, 0, none⟩) 8 8)).run Try.prog (w.alloc (.cells #[.int .u8 ((n : Int) / 72057594037927936), .int .u8 ((n : Int) / 281474976710656 % 256), .int .u8 ((n : Int) / 1099511627776 % 256), .int .u8 ((n : Int) / 4294967296 % 256), .int .u8 ((n : Int) / 16777216 % 256), .int .u8 ((n : Int) / 65536 % 256), .int .u8 ((n : Int) / 256 % 256), .int .u8 ((n : Int) % 256)] 133)) =
      .ok (.string (str (bb n))) (w.alloc (.cells #[.int .u8 ((n : Int) / 72057594037927936), .int .u8 ((n : Int) / 281474976710656 % 256), .int .u8 ((n : Int) / 1099511627776 % 256), .int .u8 ((n : Int) / 4294967296 % 256), .int .u8 ((n : Int) / 16777216 % 256), .int .u8 ((n : Int) / 65536 % 256), .int .u8 ((n : Int) / 256 % 256), .int .u8 ((n : Int) % 256)] 133)) := by
  have h := run_convert_bytes_arg (P := Try.prog) (w.alloc (.cells #[.int .u8 ((n : Int) / 72057594037927936), .int .u8 ((n : Int) / 281474976710656 % 256), .int .u8 ((n : Int) / 1099511627776 % 256), .int .u8 ((n : Int) / 4294967296 % 256), .int .u8 ((n : Int) / 16777216 % 256), .int .u8 ((n : Int) / 65536 % 256), .int .u8 ((n : Int) / 256 % 256), .int .u8 ((n : Int) % 256)] 133)) 103 5 Try.underlying103 Try.underlying5 w.heap.size 0 8 8
    [(n : Int) / 72057594037927936, (n : Int) / 281474976710656 % 256, (n : Int) / 1099511627776 % 256, (n : Int) / 4294967296 % 256, (n : Int) / 16777216 % 256, (n : Int) / 65536 % 256, (n : Int) / 256 % 256, (n : Int) % 256] rfl
    (fun i hi => by
      have e : ∀ (o : Obj), (w.alloc o).heap[w.heap.size]? = some o := fun o => heap_alloc_new w o
      simp only [World.cell?, e, Nat.zero_add]
      match i, hi with
      | 0, _ | 1, _ | 2, _ | 3, _ | 4, _ | 5, _ | 6, _ | 7, _ => rfl) 9 Try.underlying9
  rw [h]
  congr 2
  unfold strOfNums str bb
  congr 2
  simp only [List.map_cons, List.map_nil, List.range, List.range.loop]
  have k0 : ((n : Int) / 72057594037927936).toNat = n / 2 ^ 56 % 256 := by omega
  have k1 : ∀ d : Nat, ((n : Int) / d % 256).toNat = n / d % 256 := fun d => by
    rw [← Int.natCast_ediv]; omega
  have k7 : ((n : Int) % 256).toNat = n % 256 := by omega
  rw [k0, k7]
  have a1 := k1 281474976710656
  have a2 := k1 1099511627776
  have a3 := k1 4294967296
  have a4 := k1 16777216
  have a5 := k1 65536
  have a6 := k1 256
  simp only [Int.cast_ofNat_Int] at a1 a2 a3 a4 a5 a6
  rw [a1, a2, a3, a4, a5, a6]
  simp

set_option maxHeartbeats 1000000 in
theorem Bits_any (n : Nat) (w : World) (hn : n < 18446744073709551616) :
    Calls Try.prog 70 #[.int .u64 n] w fun e w' => e = .returned (.string (str (bb n))) ∧ Below w.heap.size w w' := by
  have hcv := bits_conv n w hn
  go_enter Try.func70, Try.ntmps70
  go_wp2
  refine wp_loop_rounds 9 ?_
  iterate 9 (rw [rounds_succ]; go_wp2)
  go_ret
  exact ⟨rfl, (Below.refl _ w).alloc (Nat.le_refl _) _⟩


end Go.Proofs.Ytpnfdmglhonkmaa
