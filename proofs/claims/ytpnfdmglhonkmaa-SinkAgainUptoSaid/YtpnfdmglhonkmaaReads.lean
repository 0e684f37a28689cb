/- The function literals that pack's faces hand to face, and what they lean on. -/
import Derived.Test.YtpnfdmglhonkmaaFace
import Derived.Deep.RegionHeld3
set_option maxRecDepth 100000
namespace Go.Proofs.Ytpnfdmglhonkmaa
open Go.RowKit

def upR (r : Except Int (Nat × Nat)) : Except Int (Int × Nat) :=
  match r with
  | .ok (n, k) => .ok ((n : Int), k)
  | .error c => .error c

theorem read_of_num {g : Nat} {b : ByteArray} {p : Nat} {r : Except Int (Nat × Nat)} {w w' : World} {x : Ending} (h : NumPost g b p 0 r w x w') : ReadPost (Value.int .u64) g b p (upR r) w x w' := by
  cases r with
  | error c => exact h
  | ok v => obtain ⟨n, k⟩ := v; exact h

/-- number, as a function that reads -/
theorem number_read (g : Nat) (b : ByteArray) (p : Nat) (most : Nat) (over : Int) (w : World) (hR : Rdr w g b p 0) (hp : p ≤ b.size) (hb : b.size < 4294967296) (hm : most < 18446744073709551616) :
    Calls Try.prog 31 #[.pointer (some ⟨g, 0, none⟩), .int .u64 (most : Int), .int .i64 over] w (ReadPost (Value.int .u64) g b p (upR (numR (b.data.toList.drop p) most over)) w) :=
  (number_any g b p 0 most over w hR hp hb hm).mono fun _ _ h => read_of_num h

theorem numR_le {l : List UInt8} {most n k : Nat} {over : Int} (h : numR l most over = .ok (n, k)) : n ≤ most := by
  unfold numR at h
  cases hr : rdv 0 0 l with
  | error c => rw [hr] at h; cases h
  | ok v =>
    obtain ⟨m, j⟩ := v
    rw [hr] at h
    by_cases hm : m ≤ most
    · simp [hm] at h
      omega
    · simp [hm] at h

theorem upR_le {l : List UInt8} {most k : Nat} {n : Int} {over : Int} (h : upR (numR l most over) = .ok (n, k)) : 0 ≤ n ∧ n ≤ most := by
  unfold upR at h
  cases hr : numR l most over with
  | error c => rw [hr] at h; cases h
  | ok v =>
    obtain ⟨m, j⟩ := v
    have := numR_le hr
    rw [hr] at h
    simp at h
    omega

set_option maxHeartbeats 400000 in
theorem num_lit (rb mb g : Nat) (b : ByteArray) (p most : Nat) (w : World) (hB : w.heap[rb]? = some (.cells #[.pointer (some ⟨g, 0, none⟩)] 70 (0, 0))) (hM : w.heap[mb]? = some (.cells #[.int .u64 (most : Int)] 41 (0, 0)))
    (hR : Rdr w g b p 0) (hp : p ≤ b.size) (hb : b.size < 4294967296) (hm : most < 18446744073709551616) :
    Calls Try.prog 30 #[.pointer (some ⟨rb, 0, none⟩), .pointer (some ⟨mb, 0, none⟩)] w (ReadPost (Value.int .u64) g b p (upR (numR (b.data.toList.drop p) most 21)) w) := by
  have h1 := cell_of_one hB
  have h2 := cell_of_one hM
  have hc := number_read g b p most 21 w hR hp hb hm
  generalize upR (numR (b.data.toList.drop p) most 21) = R at hc ⊢
  have HC := Lib.hid hc
  clear hc hB hM
  go_enter Try.func30, Try.ntmps30
  go_wp2_with fail
  refine HC.out.mono ?_
  cases R with
  | error c =>
    rintro x w1 ⟨rfl, hq⟩
    exact ⟨rfl, rfl, hq⟩
  | ok v =>
    obtain ⟨n, k⟩ := v
    rintro x w1 ⟨rfl, hq⟩
    go_wp2
    go_ret
    exact ⟨rfl, hq⟩

set_option maxHeartbeats 400000 in
theorem list_any (g : Nat) (b : ByteArray) (p : Nat) (most : Int) (w : World) (hR : Rdr w g b p 0) (hp : p ≤ b.size) (hb : b.size < 4294967296) (hm : most ≤ 9223372036854775807) :
    Calls Try.prog 90 #[.pointer (some ⟨g, 0, none⟩), .int .i64 most] w (ReadPost (Value.int .i64) g b p (upR (numR (b.data.toList.drop p) most.toNat 23)) w) := by
  obtain ⟨m, hmd⟩ : ∃ m, m = most.toNat := ⟨_, rfl⟩
  have hm63 : m ≤ 9223372036854775807 := by omega
  have hc := number_read g b p m 23 w hR hp hb (by omega)
  rw [← hmd]
  have hle : ∀ n k, upR (numR (b.data.toList.drop p) m 23) = .ok (n, k) → 0 ≤ n ∧ n ≤ m := fun n k h => upR_le h
  generalize upR (numR (b.data.toList.drop p) m 23) = R at hc hle ⊢
  have HC := Lib.hid hc
  have HL := Lib.hid hle
  clear hc hle
  by_cases h0 : most ≤ 0
  · obtain rfl : m = 0 := by omega
    clear hmd
    go_enter Try.func90, Try.ntmps90
    go_wp2_with fail
    refine HC.out.mono ?_
    cases R with
    | error c =>
      rintro x w1 ⟨rfl, hq⟩
      exact ⟨rfl, rfl, hq⟩
    | ok v =>
      obtain ⟨n, k⟩ := v
      rintro x w1 ⟨rfl, hq⟩
      obtain ⟨b1, b2⟩ := HL.out _ _ rfl
      go_wp2
      go_ret
      exact ⟨rfl, hq⟩
  · obtain rfl : most = (m : Int) := by omega
    clear hmd
    go_enter Try.func90, Try.ntmps90
    go_wp2_with fail
    refine HC.out.mono ?_
    cases R with
    | error c =>
      rintro x w1 ⟨rfl, hq⟩
      exact ⟨rfl, rfl, hq⟩
    | ok v =>
      obtain ⟨n, k⟩ := v
      rintro x w1 ⟨rfl, hq⟩
      obtain ⟨b1, b2⟩ := HL.out _ _ rfl
      go_wp2
      go_ret
      exact ⟨rfl, hq⟩


end Go.Proofs.Ytpnfdmglhonkmaa
