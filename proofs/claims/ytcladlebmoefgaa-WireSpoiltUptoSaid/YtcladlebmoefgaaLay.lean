/- What lays: the reference's Num; Text, Bits of both. -/
import Derived.Test.YtcladlebmoefgaaNum
namespace Go.Proofs.Ytcladlebmoefgaa
open Go.RowKit

theorem rnum_byte (m : Nat) : Value.int .u8 ((m : Int) % 128 + 128) = B (UInt8.ofNat (m % 128 + 128)) := by
  rw [← B_of _ (by omega)]
  congr 1

set_option maxHeartbeats 400000 in
theorem RNum_any (n : Nat) (w : World) (hn : n < 18446744073709551616) :
    Calls Try.prog 25 #[.int .u64 n] w fun e w' => e = .returned (.string (str (vb n))) ∧ Below w.heap.size w w' := by
  obtain ⟨i0, hi, hz0, hz1, hz2⟩ := info_parts Try.info5
  go_enter Try.func25, Try.ntmps25
  go_wp2
  go_loopw [0, 3] (fun x b wr => ∃ (m : Nat) (l : List UInt8), m ≤ n ∧ x = .int .u64 m ∧ l ++ vb m = vb n ∧ wr.ownsRow w.heap.size 5 1 b l.length (l.map B) ∧ Below w.heap.size w wr)
    (fun x _ _ => (intOf x).toNat)
  case atStart => exact ⟨n, [], Nat.le_refl _, rfl, rfl, World.ownsRow_lit w #[] 0 (Nat.le_refl _) (by decide) rfl, (Below.refl _ w).alloc (Nat.le_refl _) _⟩
  case round =>
    obtain ⟨m, l, hm, rfl, hl, hown, hb⟩ := hrel
    have hlen := num_room hl hn
    have HL := Lib.hid hl
    clear hl
    have hz := hb.size
    by_cases h : (128 : Int) ≤ m
    · go_wp2_with (at_builtin; refine wpList_append_one rfl (.tmp 7) (.tmp 12) 39 rfl w.heap.size 5 i0 (.int .u8 0) 1 Try.underlying39 hi hz0 hz1 hz2 rfl _ _ _ rfl hown _ rfl rfl (by omega) (by decide) hz ?_; intro v' w1 ho1 hb1 hg1)
      have R := num_next HL.out (by omega) (rnum_byte m) ho1 rfl
      refine ⟨⟨m / 128, _, by omega, by go_num, R.1, R.2, hb.trans hb1⟩, by simp [intOf]; omega⟩
    · go_wp2_with (at_builtin; refine wpList_append_one rfl (.tmp 16) (.tmp 19) 39 rfl w.heap.size 5 i0 (.int .u8 0) 1 Try.underlying39 hi hz0 hz1 hz2 rfl _ _ _ rfl hown _ rfl rfl (by omega) (by decide) hz ?_; intro v' w1 ho1 hb1 hg1; have hcv := num_last HL.out (by omega) ho1)
      go_ret
      exact ⟨rfl, hb.trans hb1⟩
/-- the form of a text -/
def tb (l : List UInt8) : List UInt8 := vb l.length ++ l

theorem str_cat (s : ByteArray) : str (vb s.size) ++ s = str (tb s.data.toList) := by
  apply ByteArray.ext
  apply Array.toList_inj.1
  simp [str, tb]

set_option maxHeartbeats 400000 in
theorem Text_any (s : ByteArray) (w : World) (hs : s.size < 4611686018427387904) :
    Calls Try.prog 69 #[.string s] w fun e w' => e = .returned (.string (str (tb s.data.toList))) ∧ Below w.heap.size w w' := by
  have hcat : str (vb s.size) ++ s = str (tb s.data.toList) := str_cat s
  have HC := Lib.hid hcat
  have hsz : (str (vb s.size)).size ≤ 10 := by rw [str_size]; exact vb_len10 _ (by omega)
  clear hcat
  go_enter Try.func69, Try.ntmps69
  go_wp2_with fail
  refine (Num_any s.size _ (by omega)).mono ?_
  rintro e w1 ⟨rfl, hb⟩
  go_wp2
  go_ret
  exact ⟨congrArg (fun x => Ending.returned (Value.string x)) HC.out, hb⟩

set_option maxHeartbeats 400000 in
theorem RText_any (s : ByteArray) (w : World) (hs : s.size < 4611686018427387904) :
    Calls Try.prog 27 #[.string s] w fun e w' => e = .returned (.string (str (tb s.data.toList))) ∧ Below w.heap.size w w' := by
  have hcat : str (vb s.size) ++ s = str (tb s.data.toList) := str_cat s
  have HC := Lib.hid hcat
  have hsz : (str (vb s.size)).size ≤ 10 := by rw [str_size]; exact vb_len10 _ (by omega)
  clear hcat
  go_enter Try.func27, Try.ntmps27
  go_wp2_with fail
  refine (RNum_any s.size _ (by omega)).mono ?_
  rintro e w1 ⟨rfl, hb⟩
  go_wp2
  go_ret
  exact ⟨congrArg (fun x => Ending.returned (Value.string x)) HC.out, hb⟩

theorem bb_byte (n k : Nat) : Value.int .u8 ((n : Int) / 2 ^ (56 - 8 * k) % 256) = B (UInt8.ofNat (n / 2 ^ (56 - 8 * k) % 256)) := by
  rw [← B_of _ (Nat.mod_lt _ (by decide))]
  congr 1

theorem bb_take (n k : Nat) (hk : k < 8) : (bb n).take (k + 1) = (bb n).take k ++ [UInt8.ofNat (n / 2 ^ (56 - 8 * k) % 256)] := by
  rw [List.take_succ_eq_append_getElem (by rw [bb_len]; exact hk)]
  simp [bb]

theorem bb_next {w1 : World} {base n k : Nat} {v : Value} (hk : k < 8) (ho : w1.ownsRow base 5 1 v (k + 1) (((bb n).take k).map B ++ [Value.int .u8 ((n : Int) / 2 ^ (56 - 8 * k) % 256)])) :
    w1.ownsRow base 5 1 v (k + 1) (((bb n).take (k + 1)).map B) := by
  rw [bb_take n k hk, List.map_append]
  rw [bb_byte] at ho
  exact ho

theorem bb_end {w1 : World} {base n k : Nat} {v : Value} (hk : ¬ k < 8) (h8 : k ≤ 8) (ho : w1.ownsRow base 5 1 v k (((bb n).take k).map B)) :
    (convert 39 9 v).run Try.prog w1 = .ok (.string (str (bb n))) w1 := by
  obtain rfl : k = 8 := by omega
  rw [List.take_of_length_le (by rw [bb_len]; omega)] at ho
  exact conv_own ho

theorem bits_conv (n : Nat) (w : World) (hn : n < 18446744073709551616) :
    (convert 39 9 (.slice (some ⟨w.heap.size, 0, none⟩) 8 8)).run Try.prog (w.alloc (.cells #[.int .u8 ((n : Int) / 72057594037927936), .int .u8 ((n : Int) / 281474976710656 % 256), .int .u8 ((n : Int) / 1099511627776 % 256), .int .u8 ((n : Int) / 4294967296 % 256), .int .u8 ((n : Int) / 16777216 % 256), .int .u8 ((n : Int) / 65536 % 256), .int .u8 ((n : Int) / 256 % 256), .int .u8 ((n : Int) % 256)] 98)) =
      .ok (.string (str (bb n))) (w.alloc (.cells #[.int .u8 ((n : Int) / 72057594037927936), .int .u8 ((n : Int) / 281474976710656 % 256), .int .u8 ((n : Int) / 1099511627776 % 256), .int .u8 ((n : Int) / 4294967296 % 256), .int .u8 ((n : Int) / 16777216 % 256), .int .u8 ((n : Int) / 65536 % 256), .int .u8 ((n : Int) / 256 % 256), .int .u8 ((n : Int) % 256)] 98)) := by
  have h := run_convert_bytes_arg (P := Try.prog) (w.alloc (.cells #[.int .u8 ((n : Int) / 72057594037927936), .int .u8 ((n : Int) / 281474976710656 % 256), .int .u8 ((n : Int) / 1099511627776 % 256), .int .u8 ((n : Int) / 4294967296 % 256), .int .u8 ((n : Int) / 16777216 % 256), .int .u8 ((n : Int) / 65536 % 256), .int .u8 ((n : Int) / 256 % 256), .int .u8 ((n : Int) % 256)] 98)) 39 5 Try.underlying39 Try.underlying5 w.heap.size 0 8 8
    [(n : Int) / 72057594037927936, (n : Int) / 281474976710656 % 256, (n : Int) / 1099511627776 % 256, (n : Int) / 4294967296 % 256, (n : Int) / 16777216 % 256, (n : Int) / 65536 % 256, (n : Int) / 256 % 256, (n : Int) % 256] rfl
    (fun i hi => by
      have e : ∀ (o : Obj), (w.alloc o).heap[w.heap.size]? = some o := fun o => heap_alloc_new w o
      simp only [World.cell?, e, Nat.zero_add]
      match i, hi with
      | 0, _ | 1, _ | 2, _ | 3, _ | 4, _ | 5, _ | 6, _ | 7, _ => rfl) 9 Try.underlying9
  rw [h]
  congr 2
  unfold strOfNums str bb
  congr 2
  simp only [List.map_cons, List.map_nil, List.range, List.range.loop]
  have k0 : ((n : Int) / 72057594037927936).toNat = n / 2 ^ 56 % 256 := by omega
  have k1 : ∀ d : Nat, ((n : Int) / d % 256).toNat = n / d % 256 := fun d => by
    rw [← Int.natCast_ediv]; omega
  have k7 : ((n : Int) % 256).toNat = n % 256 := by omega
  rw [k0, k7]
  have a1 := k1 281474976710656
  have a2 := k1 1099511627776
  have a3 := k1 4294967296
  have a4 := k1 16777216
  have a5 := k1 65536
  have a6 := k1 256
  simp only [Int.cast_ofNat_Int] at a1 a2 a3 a4 a5 a6
  rw [a1, a2, a3, a4, a5, a6]
  simp

set_option maxHeartbeats 1000000 in
theorem Bits_any (n : Nat) (w : World) (hn : n < 18446744073709551616) :
    Calls Try.prog 75 #[.int .u64 n] w fun e w' => e = .returned (.string (str (bb n))) ∧ Below w.heap.size w w' := by
  have hcv := bits_conv n w hn
  go_enter Try.func75, Try.ntmps75
  go_wp2
  refine wp_loop_rounds 9 ?_
  iterate 9 (rw [rounds_succ]; go_wp2)
  go_ret
  exact ⟨rfl, (Below.refl _ w).alloc (Nat.le_refl _) _⟩

set_option maxRecDepth 100000 in
set_option maxHeartbeats 1000000 in
theorem RBits_any (n : Nat) (w : World) (_hn : n < 18446744073709551616) :
    Calls Try.prog 26 #[.int .u64 n] w fun e w' => e = .returned (.string (str (bb n))) ∧ Below w.heap.size w w' := by
  obtain ⟨i0, hi, hz0, hz1, hz2⟩ := info_parts Try.info5
  go_enter Try.func26, Try.ntmps26
  go_wp2
  go_loopw [3, 4] (fun b x wr => ∃ (k : Nat), k ≤ 8 ∧ x = .int .i64 (56 - 8 * (k : Int)) ∧ wr.ownsRow w.heap.size 5 1 b k (((bb n).take k).map B) ∧ Below w.heap.size w wr)
    (fun _ x _ => (intOf x + 8).toNat)
  case atStart => exact ⟨0, by omega, rfl, World.ownsRow_lit w #[] 0 (Nat.le_refl _) (by decide) rfl, (Below.refl _ w).alloc (Nat.le_refl _) _⟩
  case round =>
    obtain ⟨k, hk, rfl, hown, hb⟩ := hrel
    have hz := hb.size
    by_cases h : k < 8
    · go_wp2_with (at_builtin; refine wpList_append_one rfl (.tmp 10) (.tmp 15) 39 rfl w.heap.size 5 i0 (.int .u8 0) 1 Try.underlying39 hi hz0 hz1 hz2 rfl _ _ _ rfl hown _ rfl rfl (by omega) (by decide) hz ?_; intro v' w1 ho1 hb1 hg1)
      refine ⟨⟨k + 1, by omega, ?_, bb_next h ho1, hb.trans hb1⟩, by simp [intOf]; omega⟩
      congr 1
      omega
    · have hcv := bb_end h hk hown
      go_wp2
      go_ret
      exact ⟨rfl, hb⟩
end Go.Proofs.Ytcladlebmoefgaa
