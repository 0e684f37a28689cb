/- pack.Num and its reference: the form of a number. -/
import Derived.Test.YtpnfdmglhonkmaaTypes
set_option maxRecDepth 100000
namespace Go.Proofs.Ytpnfdmglhonkmaa
open Go.RowKit

theorem conv_own {w : World} {base : Nat} {v : Value} {n : Nat} {l : List UInt8} (hown : w.ownsRow base 5 1 v n (l.map B)) : (convert 103 9 v).run Try.prog w = .ok (.string (str l)) w :=
  run_convert_own Try.underlying103 Try.underlying5 Try.underlying9 hown

theorem num_byte (m : Nat) : Value.int .u8 (bits .or .u8 ((m : Int) % 256) 128) = B (UInt8.ofNat (m % 128 + 128)) := by
  rw [← B_of _ (by omega)]
  have h := u8_or_nat (m % 256) 128 (by omega) (by omega)
  have e : m % 256 ||| 128 = m % 128 + 128 := by
    have h1 : (m % 256) = 128 * (m % 256 / 128) + m % 128 := by omega
    have h2 : m % 256 / 128 = 0 ∨ m % 256 / 128 = 1 := by omega
    have key : ∀ x, x < 128 → x ||| 128 = x + 128 ∧ (128 + x) ||| 128 = x + 128 := by decide +kernel
    rcases h2 with h2 | h2 <;> rw [h1, h2]
    · simpa using (key (m % 128) (by omega)).1
    · simpa using (key (m % 128) (by omega)).2
  rw [e] at h
  rw [← h]
  rfl

/-- after a round -/
theorem num_next {w1 : World} {base m n k : Nat} {l : List UInt8} {v : Value} {x : Value} (hl : l ++ vb m = vb n) (hm : ¬ m < 128) (hx : x = B (UInt8.ofNat (m % 128 + 128)))
    (ho : w1.ownsRow base 5 1 v (k + 1) (l.map B ++ [x])) (hk : k = l.length) :
    (l ++ [UInt8.ofNat (m % 128 + 128)]) ++ vb (m / 128) = vb n ∧ w1.ownsRow base 5 1 v (l ++ [UInt8.ofNat (m % 128 + 128)]).length ((l ++ [UInt8.ofNat (m % 128 + 128)]).map B) := by
  subst hk
  constructor
  · rw [← hl, vb_ge hm]; simp
  · simpa [hx] using ho

theorem num_room {l : List UInt8} {m n : Nat} (hl : l ++ vb m = vb n) (hn : n < 18446744073709551616) : l.length ≤ 10 := by
  have h1 := congrArg List.length hl
  have h2 := vb_len10 n hn
  simp only [List.length_append] at h1
  omega

theorem num_last {w1 : World} {base m n : Nat} {l : List UInt8} {v : Value} (hl : l ++ vb m = vb n) (hm : m < 128)
    (ho : w1.ownsRow base 5 1 v (l.length + 1) (l.map B ++ [.int .u8 (m : Int)])) : (convert 103 9 v).run Try.prog w1 = .ok (.string (str (vb n))) w1 := by
  have e : vb n = l ++ [UInt8.ofNat m] := by rw [← hl, vb_lt hm]
  refine e ▸ conv_own (base := base) (n := l.length + 1) ?_
  simpa [B_of m (by omega)] using ho

set_option maxHeartbeats 400000 in
theorem Num_any (n : Nat) (w : World) (hn : n < 18446744073709551616) :
    Calls Try.prog 26 #[.int .u64 n] w fun e w' => e = .returned (.string (str (vb n))) ∧ Below w.heap.size w w' := by
  obtain ⟨i0, hi, hz0, hz1, hz2⟩ := info_parts Try.info5
  go_enter Try.func26, Try.ntmps26
  go_wp2
  go_loopw [0, 3] (fun x b wr => ∃ (m : Nat) (l : List UInt8), m ≤ n ∧ x = .int .u64 m ∧ l ++ vb m = vb n ∧ wr.ownsRow w.heap.size 5 1 b l.length (l.map B) ∧ Below w.heap.size w wr)
    (fun x _ _ => (intOf x).toNat)
  case atStart => exact ⟨n, [], Nat.le_refl _, rfl, rfl, World.ownsRow_nil _ _ _ _, Below.refl _ _⟩
  case round =>
    obtain ⟨m, l, hm, rfl, hl, hown, hb⟩ := hrel
    have hlen := num_room hl hn
    have HL := Lib.hid hl
    clear hl
    have hz := hb.size
    by_cases h : (127 : Int) < m
    · go_wp2_with (at_builtin; refine wpList_append_one rfl (.tmp 8) (.tmp 12) 103 rfl w.heap.size 5 i0 (.int .u8 0) 1 Try.underlying103 hi hz0 hz1 hz2 rfl _ _ _ rfl hown _ rfl rfl (by omega) (by decide) hz ?_; intro v' w1 ho1 hb1 hg1)
      have R := num_next HL.out (by omega) (num_byte m) ho1 rfl
      refine ⟨⟨m / 128, _, by omega, by go_num, R.1, R.2, hb.trans hb1⟩, by simp [intOf]; omega⟩
    · go_wp2_with (at_builtin; refine wpList_append_one rfl (.tmp 14) (.tmp 17) 103 rfl w.heap.size 5 i0 (.int .u8 0) 1 Try.underlying103 hi hz0 hz1 hz2 rfl _ _ _ rfl hown _ rfl rfl (by omega) (by decide) hz ?_; intro v' w1 ho1 hb1 hg1; have hcv := num_last HL.out (by omega) ho1)
      go_ret
      exact ⟨rfl, hb.trans hb1⟩
end Go.Proofs.Ytpnfdmglhonkmaa
