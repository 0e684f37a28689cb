/- The document's whole numbers of 128 bits: what its methods answer (contracts). The document's package of numbers: lengths, amounts taken apart, products, quotients (contracts). The document's 'rounded': a number of 128 bits and an exponent, rounded to the nearest number (contract). The document's product of two numbers of 64 bits (contract). The document's quotient of a number of 128 bits by one of 53 (contract). -/
import Derived.Test.YtjloiclbknfomaaGreatDoorNb
import Derived.Test.YtjloiclbknfomaaGreatDoorIy
import Derived.BigQuiet
import Derived.Deep.QuietTactic
import Derived.Deep.RegionHeld3
import Derived.Test.YtjloiclbknfomaaGreatDoorNumOps
import Derived.Deep.LoopGhost
import Derived.Test.YtjloiclbknfomaaGreatDoorKcell
import Derived.Deep.DeepCutAuto
import Derived.Deep.RegionWith
set_option maxRecDepth 100000
namespace Go.Proofs.YtjloiclbknfomaaGreatDoor
open Go.RowKit

/-- a whole number of 128 bits as the code has it -/
def wv (n : Nat) : Value := .agg #[.int .u64 (((n) / 18446744073709551616 : Nat) : Int), .int .u64 (((n) % 18446744073709551616 : Nat) : Int)]

theorem bel_alloc {w x : World} (h : Below w.heap.size w x) (o : Obj) : Below w.heap.size w (x.alloc o) := h.alloc h.size o

theorem shl_fact (a k : Nat) : IntKind.u64.wrap (((a : Nat) : Int) * 2 ^ k) = ((a * 2 ^ k % 18446744073709551616 : Nat) : Int) := by
  rw [IntKind.wrap_u64]
  have h : ((a : Nat) : Int) * 2 ^ k = ((a * 2 ^ k : Nat) : Int) := by
    rw [Int.natCast_mul, Int.natCast_pow]
    rfl
  rw [h]
  omega
theorem shr_fact (a k : Nat) : ((a : Nat) : Int) / 2 ^ k = ((a / 2 ^ k : Nat) : Int) := by
  have h : (2 : Int) ^ k = ((2 ^ k : Nat) : Int) := by
    rw [Int.natCast_pow]
    rfl
  rw [h]
  exact (Int.natCast_ediv _ _).symm

set_option maxHeartbeats 1000000 in
theorem wless_any {n m : Nat} (hn : n < 340282366920938463463374607431768211456) (hm : m < 340282366920938463463374607431768211456) (w : World) :
    Calls Tryz.prog 105 #[wv n, wv m] w fun e w' => e = .returned (.bool (decide (n < m))) ∧ Below w.heap.size w w' := by
  unfold wv
  have HF : Hid (decide (n < m) = (decide ((((n) / 18446744073709551616 : Nat) : Int) < (((m) / 18446744073709551616 : Nat) : Int)) || (decide ((((n) / 18446744073709551616 : Nat) : Int) = (((m) / 18446744073709551616 : Nat) : Int)) && decide ((((n) % 18446744073709551616 : Nat) : Int) < (((m) % 18446744073709551616 : Nat) : Int))))) := by
    rw [← Bool.decide_and, ← Bool.decide_or]
    exact decide_eq_decide.2 (by omega)
  clear hn hm
  obtain ⟨a, hva⟩ : ∃ z : Int, z = (((n) / 18446744073709551616 : Nat) : Int) := ⟨_, rfl⟩
  rw [← hva] at HF ⊢
  clear hva
  obtain ⟨b, hvb⟩ : ∃ z : Int, z = (((n) % 18446744073709551616 : Nat) : Int) := ⟨_, rfl⟩
  rw [← hvb] at HF ⊢
  clear hvb
  obtain ⟨c, hvc⟩ : ∃ z : Int, z = (((m) / 18446744073709551616 : Nat) : Int) := ⟨_, rfl⟩
  rw [← hvc] at HF ⊢
  clear hvc
  obtain ⟨d, hvd⟩ : ∃ z : Int, z = (((m) % 18446744073709551616 : Nat) : Int) := ⟨_, rfl⟩
  rw [← hvd] at HF ⊢
  clear hvd
  by_cases c1 : a < c
  · go_enter Tryz.func105, Tryz.ntmps105
    go_wp2
    go_ret
    exact ⟨by rw [HF.out]; simp [c1], bel_alloc (bel_alloc (Below.refl _ _) _) _⟩
  · by_cases c2 : a = c
    · go_enter Tryz.func105, Tryz.ntmps105
      go_wp2
      go_ret
      exact ⟨by rw [HF.out]; simp [c2], bel_alloc (bel_alloc (Below.refl _ _) _) _⟩
    · go_enter Tryz.func105, Tryz.ntmps105
      go_wp2
      go_ret
      exact ⟨by rw [HF.out]; simp [c1, c2], bel_alloc (bel_alloc (Below.refl _ _) _) _⟩

set_option maxHeartbeats 1000000 in
theorem wplus_any {n m : Nat} (h : n + m < 340282366920938463463374607431768211456) (w : World) :
    Calls Tryz.prog 69 #[wv n, wv m] w fun e w' => e = .returned (wv (n + m)) ∧ Below w.heap.size w w' := by
  obtain ⟨p1, p2, p3⟩ := plus_words h
  unfold wv
  have hl : IntKind.u64.wrap ((((n) % 18446744073709551616 : Nat) : Int) + (((m) % 18446744073709551616 : Nat) : Int)) = (((n + m) % 18446744073709551616 : Nat) : Int) := by
    rw [IntKind.wrap_u64]
    omega
  by_cases c1 : (n + m) % 18446744073709551616 < n % 18446744073709551616
  · have hh : IntKind.u64.wrap (IntKind.u64.wrap ((((n) / 18446744073709551616 : Nat) : Int) + (((m) / 18446744073709551616 : Nat) : Int)) + 1) = (((n + m) / 18446744073709551616 : Nat) : Int) := by
      rw [IntKind.wrap_u64, IntKind.wrap_u64]
      omega
    have c2 : (((n + m) % 18446744073709551616 : Nat) : Int) < (((n) % 18446744073709551616 : Nat) : Int) := by omega
    clear p1 p2 p3 c1 h
    obtain ⟨x, hvx⟩ : ∃ z : Int, z = (((n + m) % 18446744073709551616 : Nat) : Int) := ⟨_, rfl⟩
    rw [← hvx] at hl c2 ⊢
    clear hvx
    obtain ⟨y, hvy⟩ : ∃ z : Int, z = (((n + m) / 18446744073709551616 : Nat) : Int) := ⟨_, rfl⟩
    rw [← hvy] at hh ⊢
    clear hvy
    obtain ⟨a, hva⟩ : ∃ z : Int, z = (((n) / 18446744073709551616 : Nat) : Int) := ⟨_, rfl⟩
    rw [← hva] at hh ⊢
    clear hva
    obtain ⟨b, hvb⟩ : ∃ z : Int, z = (((n) % 18446744073709551616 : Nat) : Int) := ⟨_, rfl⟩
    rw [← hvb] at hl c2 ⊢
    clear hvb
    obtain ⟨c, hvc⟩ : ∃ z : Int, z = (((m) / 18446744073709551616 : Nat) : Int) := ⟨_, rfl⟩
    rw [← hvc] at hh ⊢
    clear hvc
    obtain ⟨d, hvd⟩ : ∃ z : Int, z = (((m) % 18446744073709551616 : Nat) : Int) := ⟨_, rfl⟩
    rw [← hvd] at hl ⊢
    clear hvd
    go_enter Tryz.func69, Tryz.ntmps69
    go_wp2
    refine bodyPost_ret (v := .agg #[.int .u64 y, .int .u64 x]) (by simp [results, Tryz.results69, go_sem]) rfl ?_
    exact ⟨rfl, bel_alloc (bel_alloc (bel_alloc (Below.refl _ _) _) _) _⟩
  · have hh : IntKind.u64.wrap ((((n) / 18446744073709551616 : Nat) : Int) + (((m) / 18446744073709551616 : Nat) : Int)) = (((n + m) / 18446744073709551616 : Nat) : Int) := by
      rw [IntKind.wrap_u64]
      omega
    have c2 : ¬ (((n + m) % 18446744073709551616 : Nat) : Int) < (((n) % 18446744073709551616 : Nat) : Int) := by omega
    clear p1 p2 p3 c1 h
    obtain ⟨x, hvx⟩ : ∃ z : Int, z = (((n + m) % 18446744073709551616 : Nat) : Int) := ⟨_, rfl⟩
    rw [← hvx] at hl c2 ⊢
    clear hvx
    obtain ⟨y, hvy⟩ : ∃ z : Int, z = (((n + m) / 18446744073709551616 : Nat) : Int) := ⟨_, rfl⟩
    rw [← hvy] at hh ⊢
    clear hvy
    obtain ⟨a, hva⟩ : ∃ z : Int, z = (((n) / 18446744073709551616 : Nat) : Int) := ⟨_, rfl⟩
    rw [← hva] at hh ⊢
    clear hva
    obtain ⟨b, hvb⟩ : ∃ z : Int, z = (((n) % 18446744073709551616 : Nat) : Int) := ⟨_, rfl⟩
    rw [← hvb] at hl c2 ⊢
    clear hvb
    obtain ⟨c, hvc⟩ : ∃ z : Int, z = (((m) / 18446744073709551616 : Nat) : Int) := ⟨_, rfl⟩
    rw [← hvc] at hh ⊢
    clear hvc
    obtain ⟨d, hvd⟩ : ∃ z : Int, z = (((m) % 18446744073709551616 : Nat) : Int) := ⟨_, rfl⟩
    rw [← hvd] at hl ⊢
    clear hvd
    go_enter Tryz.func69, Tryz.ntmps69
    go_wp2
    refine bodyPost_ret (v := .agg #[.int .u64 y, .int .u64 x]) (by simp [results, Tryz.results69, go_sem]) rfl ?_
    exact ⟨rfl, bel_alloc (bel_alloc (bel_alloc (Below.refl _ _) _) _) _⟩

set_option maxHeartbeats 1000000 in
theorem wminus_any {n m : Nat} (h : m ≤ n) (hn : n < 340282366920938463463374607431768211456) (w : World) :
    Calls Tryz.prog 70 #[wv n, wv m] w fun e w' => e = .returned (wv (n - m)) ∧ Below w.heap.size w w' := by
  unfold wv
  have hl : IntKind.u64.wrap ((((n) % 18446744073709551616 : Nat) : Int) - (((m) % 18446744073709551616 : Nat) : Int)) = (((n - m) % 18446744073709551616 : Nat) : Int) := by
    rw [IntKind.wrap_u64]
    omega
  by_cases c1 : n % 18446744073709551616 < m % 18446744073709551616
  · have hh : IntKind.u64.wrap (IntKind.u64.wrap ((((n) / 18446744073709551616 : Nat) : Int) - (((m) / 18446744073709551616 : Nat) : Int)) - 1) = (((n - m) / 18446744073709551616 : Nat) : Int) := by
      rw [IntKind.wrap_u64, IntKind.wrap_u64]
      omega
    have c2 : (((n) % 18446744073709551616 : Nat) : Int) < (((m) % 18446744073709551616 : Nat) : Int) := by omega
    clear c1 h
    obtain ⟨x, hvx⟩ : ∃ z : Int, z = (((n - m) % 18446744073709551616 : Nat) : Int) := ⟨_, rfl⟩
    rw [← hvx] at hl ⊢
    clear hvx
    obtain ⟨y, hvy⟩ : ∃ z : Int, z = (((n - m) / 18446744073709551616 : Nat) : Int) := ⟨_, rfl⟩
    rw [← hvy] at hh ⊢
    clear hvy
    obtain ⟨a, hva⟩ : ∃ z : Int, z = (((n) / 18446744073709551616 : Nat) : Int) := ⟨_, rfl⟩
    rw [← hva] at hh ⊢
    clear hva
    obtain ⟨b, hvb⟩ : ∃ z : Int, z = (((n) % 18446744073709551616 : Nat) : Int) := ⟨_, rfl⟩
    rw [← hvb] at hl c2 ⊢
    clear hvb
    obtain ⟨c, hvc⟩ : ∃ z : Int, z = (((m) / 18446744073709551616 : Nat) : Int) := ⟨_, rfl⟩
    rw [← hvc] at hh ⊢
    clear hvc
    obtain ⟨d, hvd⟩ : ∃ z : Int, z = (((m) % 18446744073709551616 : Nat) : Int) := ⟨_, rfl⟩
    rw [← hvd] at hl c2 ⊢
    clear hvd
    go_enter Tryz.func70, Tryz.ntmps70
    go_wp2
    refine bodyPost_ret (v := .agg #[.int .u64 y, .int .u64 x]) (by simp [results, Tryz.results70, go_sem]) rfl ?_
    exact ⟨rfl, bel_alloc (bel_alloc (bel_alloc (Below.refl _ _) _) _) _⟩
  · have hh : IntKind.u64.wrap ((((n) / 18446744073709551616 : Nat) : Int) - (((m) / 18446744073709551616 : Nat) : Int)) = (((n - m) / 18446744073709551616 : Nat) : Int) := by
      rw [IntKind.wrap_u64]
      omega
    have c2 : ¬ (((n) % 18446744073709551616 : Nat) : Int) < (((m) % 18446744073709551616 : Nat) : Int) := by omega
    clear c1 h
    obtain ⟨x, hvx⟩ : ∃ z : Int, z = (((n - m) % 18446744073709551616 : Nat) : Int) := ⟨_, rfl⟩
    rw [← hvx] at hl ⊢
    clear hvx
    obtain ⟨y, hvy⟩ : ∃ z : Int, z = (((n - m) / 18446744073709551616 : Nat) : Int) := ⟨_, rfl⟩
    rw [← hvy] at hh ⊢
    clear hvy
    obtain ⟨a, hva⟩ : ∃ z : Int, z = (((n) / 18446744073709551616 : Nat) : Int) := ⟨_, rfl⟩
    rw [← hva] at hh ⊢
    clear hva
    obtain ⟨b, hvb⟩ : ∃ z : Int, z = (((n) % 18446744073709551616 : Nat) : Int) := ⟨_, rfl⟩
    rw [← hvb] at hl c2 ⊢
    clear hvb
    obtain ⟨c, hvc⟩ : ∃ z : Int, z = (((m) / 18446744073709551616 : Nat) : Int) := ⟨_, rfl⟩
    rw [← hvc] at hh ⊢
    clear hvc
    obtain ⟨d, hvd⟩ : ∃ z : Int, z = (((m) % 18446744073709551616 : Nat) : Int) := ⟨_, rfl⟩
    rw [← hvd] at hl c2 ⊢
    clear hvd
    go_enter Tryz.func70, Tryz.ntmps70
    go_wp2
    refine bodyPost_ret (v := .agg #[.int .u64 y, .int .u64 x]) (by simp [results, Tryz.results70, go_sem]) rfl ?_
    exact ⟨rfl, bel_alloc (bel_alloc (bel_alloc (Below.refl _ _) _) _) _⟩

set_option maxHeartbeats 2000000 in
theorem wleft_any {n k : Nat} (hk : k < 128) (hn : n * 2 ^ k < 340282366920938463463374607431768211456) (w : World) :
    Calls Tryz.prog 67 #[wv n, .int .i64 ((k : Nat) : Int)] w fun e w' => e = .returned (wv (n * 2 ^ k)) ∧ Below w.heap.size w w' := by
  unfold wv
  by_cases h64 : 64 ≤ k
  · obtain ⟨e1, e2⟩ := left_far h64 hn
    have g0 := shl_fact (n % 18446744073709551616) (k - 64)
    rw [e1] at g0
    rw [e2]
    obtain ⟨L, hvL⟩ : ∃ z : Int, z = (((n) % 18446744073709551616 : Nat) : Int) := ⟨_, rfl⟩
    rw [← hvL] at g0 ⊢
    clear hvL
    obtain ⟨R, hvR⟩ : ∃ z : Int, z = (((n * 2 ^ k) / 18446744073709551616 : Nat) : Int) := ⟨_, rfl⟩
    rw [← hvR] at g0 ⊢
    clear hvR
    clear e1 e2 hn
    have hK : (((k : Nat) : Int) - 64).toNat = k - 64 := by omega
    have k1 : (64 : Int) ≤ ((k : Nat) : Int) := by omega
    have k2 : ((k : Nat) : Int) < 128 := by omega
    have hw : IntKind.i64.wrap (((k : Nat) : Int) - 64) = ((k : Nat) : Int) - 64 := by
      rw [IntKind.wrap_i64]
      omega
    go_enter Tryz.func67, Tryz.ntmps67
    go_wp2
    refine bodyPost_ret (v := .agg #[.int .u64 R, .int .u64 0]) (by simp [results, Tryz.results67, go_sem]) rfl ?_
    exact ⟨rfl, bel_alloc (bel_alloc (Below.refl _ _) _) _⟩
  · by_cases h0 : k = 0
    · subst h0
      rw [Nat.pow_zero, Nat.mul_one]
      clear hn
      obtain ⟨H, hvH⟩ : ∃ z : Int, z = (((n) / 18446744073709551616 : Nat) : Int) := ⟨_, rfl⟩
      rw [← hvH] at ⊢
      clear hvH
      obtain ⟨L, hvL⟩ : ∃ z : Int, z = (((n) % 18446744073709551616 : Nat) : Int) := ⟨_, rfl⟩
      rw [← hvL] at ⊢
      clear hvL
      go_enter Tryz.func67, Tryz.ntmps67
      go_wp2
      refine bodyPost_ret (v := .agg #[.int .u64 H, .int .u64 L]) (by simp [results, Tryz.results67, go_sem]) rfl ?_
      exact ⟨rfl, bel_alloc (bel_alloc (Below.refl _ _) _) _⟩
    · obtain ⟨e1, e2⟩ := left_words (k := k) (by omega) (by omega) hn
      have g1 := shl_fact (n / 18446744073709551616) k
      have g2 := shr_fact (n % 18446744073709551616) (64 - k)
      have g3 : bits .or .u64 (((n / 18446744073709551616 * 2 ^ k % 18446744073709551616 : Nat)) : Int) (((n % 18446744073709551616 / 2 ^ (64 - k) : Nat)) : Int) = (((n * 2 ^ k) / 18446744073709551616 : Nat) : Int) := by
        rw [← e1]
        exact u64_or_nat _ _ (by omega) (Nat.lt_of_le_of_lt (Nat.div_le_self _ _) (by omega))
      have g4 := shl_fact (n % 18446744073709551616) k
      rw [e2] at g4
      clear e1 e2 hn
      obtain ⟨A, hvA⟩ : ∃ z : Int, z = (((n / 18446744073709551616 * 2 ^ k % 18446744073709551616 : Nat)) : Int) := ⟨_, rfl⟩
      rw [← hvA] at g1 g3
      clear hvA
      obtain ⟨B, hvB⟩ : ∃ z : Int, z = (((n % 18446744073709551616 / 2 ^ (64 - k) : Nat)) : Int) := ⟨_, rfl⟩
      rw [← hvB] at g2 g3
      clear hvB
      obtain ⟨R1, hvR1⟩ : ∃ z : Int, z = (((n * 2 ^ k) / 18446744073709551616 : Nat) : Int) := ⟨_, rfl⟩
      rw [← hvR1] at g3 ⊢
      clear hvR1
      obtain ⟨R2, hvR2⟩ : ∃ z : Int, z = (((n * 2 ^ k) % 18446744073709551616 : Nat) : Int) := ⟨_, rfl⟩
      rw [← hvR2] at g4 ⊢
      clear hvR2
      obtain ⟨H, hvH⟩ : ∃ z : Int, z = (((n) / 18446744073709551616 : Nat) : Int) := ⟨_, rfl⟩
      rw [← hvH] at g1 ⊢
      clear hvH
      obtain ⟨L, hvL⟩ : ∃ z : Int, z = (((n) % 18446744073709551616 : Nat) : Int) := ⟨_, rfl⟩
      rw [← hvL] at g2 g4 ⊢
      clear hvL
      have hK : ((64 : Int) - ((k : Nat) : Int)).toNat = 64 - k := by omega
      have k1 : (0 : Int) < ((k : Nat) : Int) := by omega
      have k2 : ((k : Nat) : Int) < 64 := by omega
      have k3 : ¬ ((k : Nat) : Int) = 0 := by omega
      have hw : IntKind.i64.wrap ((64 : Int) - ((k : Nat) : Int)) = (64 : Int) - ((k : Nat) : Int) := by
        rw [IntKind.wrap_i64]
        omega
      go_enter Tryz.func67, Tryz.ntmps67
      go_wp2
      go_region
      go_wp2
      refine bodyPost_ret (v := .agg #[.int .u64 R1, .int .u64 R2]) (by simp [results, Tryz.results67, go_sem]) rfl ?_
      exact ⟨rfl, below_drewN ( bel_alloc (bel_alloc (Below.refl _ _) _) _) _⟩

set_option maxHeartbeats 2000000 in
theorem wright_any {n k : Nat} (hk : k < 128) (hn : n < 340282366920938463463374607431768211456) (w : World) :
    Calls Tryz.prog 104 #[wv n, .int .i64 ((k : Nat) : Int)] w fun e w' => e = .returned (wv (n / 2 ^ k)) ∧ Below w.heap.size w w' := by
  unfold wv
  by_cases h64 : 64 ≤ k
  · obtain ⟨e1, e2⟩ := right_far h64 hk hn
    have g0 := shr_fact (n / 18446744073709551616) (k - 64)
    rw [e1] at g0
    rw [e2]
    obtain ⟨H, hvH⟩ : ∃ z : Int, z = (((n) / 18446744073709551616 : Nat) : Int) := ⟨_, rfl⟩
    rw [← hvH] at g0 ⊢
    clear hvH
    obtain ⟨R, hvR⟩ : ∃ z : Int, z = (((n / 2 ^ k) % 18446744073709551616 : Nat) : Int) := ⟨_, rfl⟩
    rw [← hvR] at g0 ⊢
    clear hvR
    clear e1 e2 hn
    have hK : (((k : Nat) : Int) - 64).toNat = k - 64 := by omega
    have k1 : (64 : Int) ≤ ((k : Nat) : Int) := by omega
    have k2 : ((k : Nat) : Int) < 128 := by omega
    have hw : IntKind.i64.wrap (((k : Nat) : Int) - 64) = ((k : Nat) : Int) - 64 := by
      rw [IntKind.wrap_i64]
      omega
    go_enter Tryz.func104, Tryz.ntmps104
    go_wp2
    refine bodyPost_ret (v := .agg #[.int .u64 0, .int .u64 R]) (by simp [results, Tryz.results104, go_sem]) rfl ?_
    exact ⟨rfl, bel_alloc (bel_alloc (Below.refl _ _) _) _⟩
  · by_cases h0 : k = 0
    · subst h0
      rw [Nat.pow_zero, Nat.div_one]
      clear hn
      obtain ⟨H, hvH⟩ : ∃ z : Int, z = (((n) / 18446744073709551616 : Nat) : Int) := ⟨_, rfl⟩
      rw [← hvH] at ⊢
      clear hvH
      obtain ⟨L, hvL⟩ : ∃ z : Int, z = (((n) % 18446744073709551616 : Nat) : Int) := ⟨_, rfl⟩
      rw [← hvL] at ⊢
      clear hvL
      go_enter Tryz.func104, Tryz.ntmps104
      go_wp2
      refine bodyPost_ret (v := .agg #[.int .u64 H, .int .u64 L]) (by simp [results, Tryz.results104, go_sem]) rfl ?_
      exact ⟨rfl, bel_alloc (bel_alloc (Below.refl _ _) _) _⟩
    · obtain ⟨e1, e2⟩ := right_words (k := k) (by omega) (by omega) hn
      have g1 := shr_fact (n / 18446744073709551616) k
      rw [e1] at g1
      have g2 := shr_fact (n % 18446744073709551616) k
      have g4 := shl_fact (n / 18446744073709551616) (64 - k)
      have g3 : bits .or .u64 (((n % 18446744073709551616 / 2 ^ k : Nat)) : Int) (((n / 18446744073709551616 * 2 ^ (64 - k) % 18446744073709551616 : Nat)) : Int) = (((n / 2 ^ k) % 18446744073709551616 : Nat) : Int) := by
        rw [← e2]
        exact u64_or_nat _ _ (Nat.lt_of_le_of_lt (Nat.div_le_self _ _) (by omega)) (by omega)
      clear e1 e2 hn
      obtain ⟨A, hvA⟩ : ∃ z : Int, z = (((n % 18446744073709551616 / 2 ^ k : Nat)) : Int) := ⟨_, rfl⟩
      rw [← hvA] at g2 g3
      clear hvA
      obtain ⟨B, hvB⟩ : ∃ z : Int, z = (((n / 18446744073709551616 * 2 ^ (64 - k) % 18446744073709551616 : Nat)) : Int) := ⟨_, rfl⟩
      rw [← hvB] at g4 g3
      clear hvB
      obtain ⟨R1, hvR1⟩ : ∃ z : Int, z = (((n / 2 ^ k) / 18446744073709551616 : Nat) : Int) := ⟨_, rfl⟩
      rw [← hvR1] at g1 ⊢
      clear hvR1
      obtain ⟨R2, hvR2⟩ : ∃ z : Int, z = (((n / 2 ^ k) % 18446744073709551616 : Nat) : Int) := ⟨_, rfl⟩
      rw [← hvR2] at g3 ⊢
      clear hvR2
      obtain ⟨H, hvH⟩ : ∃ z : Int, z = (((n) / 18446744073709551616 : Nat) : Int) := ⟨_, rfl⟩
      rw [← hvH] at g1 g4 ⊢
      clear hvH
      obtain ⟨L, hvL⟩ : ∃ z : Int, z = (((n) % 18446744073709551616 : Nat) : Int) := ⟨_, rfl⟩
      rw [← hvL] at g2 ⊢
      clear hvL
      have hK : ((64 : Int) - ((k : Nat) : Int)).toNat = 64 - k := by omega
      have k1 : (0 : Int) < ((k : Nat) : Int) := by omega
      have k2 : ((k : Nat) : Int) < 64 := by omega
      have k3 : ¬ ((k : Nat) : Int) = 0 := by omega
      have hw : IntKind.i64.wrap ((64 : Int) - ((k : Nat) : Int)) = (64 : Int) - ((k : Nat) : Int) := by
        rw [IntKind.wrap_i64]
        omega
      go_enter Tryz.func104, Tryz.ntmps104
      go_wp2
      go_region
      go_wp2
      refine bodyPost_ret (v := .agg #[.int .u64 R1, .int .u64 R2]) (by simp [results, Tryz.results104, go_sem]) rfl ?_
      exact ⟨rfl, below_drewN ( bel_alloc (bel_alloc (Below.refl _ _) _) _) _⟩

end Go.Proofs.YtjloiclbknfomaaGreatDoor

namespace Go.Proofs.YtjloiclbknfomaaGreatDoor
open Go.RowKit

/-- the cells of a whole number of 128 bits -/
def wc (n : Nat) : Array Value := #[.int .u64 (((n : Nat) : Int) / 18446744073709551616), .int .u64 (((n : Nat) : Int) % 18446744073709551616)]
theorem wv_wc (n : Nat) : wv n = .agg (wc n) := rfl
theorem wv_is (n : Nat) : wv n = .agg #[.int .u64 (((n : Nat) : Int) / 18446744073709551616), .int .u64 (((n : Nat) : Int) % 18446744073709551616)] := rfl
abbrev WAt (w : World) (g : Nat) (n : Nat) : Prop := Cells w g 111 (wc n)
theorem WAt.c0 {w : World} {g n : Nat} (h : WAt w g n) : w.cell? ⟨g, 0, none⟩ = some (.int .u64 (((n : Nat) : Int) / 18446744073709551616)) := h.cell (j := 0) rfl
theorem WAt.c1 {w : World} {g n : Nat} (h : WAt w g n) : w.cell? ⟨g, 1, none⟩ = some (.int .u64 (((n : Nat) : Int) % 18446744073709551616)) := h.cell (j := 1) rfl
theorem WAt.store {w : World} {g n m : Nat} (h : WAt w g n) : WAt ((w.setCell ⟨g, 0, none⟩ (.int .u64 (((m : Nat) : Int) / 18446744073709551616))).setCell ⟨g, 1, none⟩ (.int .u64 (((m : Nat) : Int) % 18446744073709551616))) g m := (h.set 0 _).set 1 _
theorem bel_store {w x : World} (h : Below w.heap.size w x) {g : Nat} (hg : w.heap.size ≤ g) (u v : Value) : Below w.heap.size w ((x.setCell ⟨g, 0, none⟩ u).setCell ⟨g, 1, none⟩ v) := (h.setCell hg u).setCell hg v

set_option maxHeartbeats 2000000 in
set_option maxRecDepth 100000 in
theorem wlength_any {n : Nat} (hn : n < 340282366920938463463374607431768211456) (w : World) :
    Calls Tryz.prog 103 #[wv n] w fun e w' => e = .returned (.int .i64 ((bitLen n : Nat) : Int)) ∧ Below w.heap.size w w' := by
  rw [wv_is]
  go_enter Tryz.func103, Tryz.ntmps103
  go_wp2
  go_loopw [3] (fun v wr => ∃ i : Nat, v = .int .i64 ((i : Nat) : Int) ∧ i ≤ 128 ∧ WAt wr w.heap.size (n / 2 ^ i) ∧ Below w.heap.size w wr ∧ Hid (bitLen n = i + bitLen (n / 2 ^ i))) (fun v _ => 129 - (intOf v).toNat)
  case atStart =>
    refine ⟨0, rfl, by omega, ?_, (Below.refl _ _).alloc (Nat.le_refl _) _, ?_⟩
    · rw [Nat.pow_zero, Nat.div_one]
      exact Cells.new w _ _
    · show bitLen n = 0 + bitLen (n / 2 ^ 0)
      rw [Nat.pow_zero, Nat.div_one, Nat.zero_add]
  case round =>
    obtain ⟨i, rfl, hi, hC, hbw, HL⟩ := hrel
    have c0 := hC.c0
    have c1 := hC.c1
    by_cases hx : n / 2 ^ i = 0
    · rw [hx] at c0 c1
      have HN : Hid (bitLen n = i) := by
        have h := HL.out
        rw [hx] at h
        exact h
      go_wp2
      go_ret
      exact ⟨by rw [HN.out]; rfl, hbw⟩
    · have hi2 : i < 128 := by
        rcases Nat.lt_or_ge i 128 with h | h
        · exact h
        · exfalso
          refine hx (Nat.div_eq_of_lt (Nat.lt_of_lt_of_le hn ?_))
          exact Nat.le_trans (by decide) (Nat.pow_le_pow_right (n := 2) (by decide) h)
      have HL2 := Lib.hid (bitLen_step hx HL.out)
      have hx2 : n / 2 ^ (i + 1) = n / 2 ^ i / 2 ^ 1 := by rw [Nat.pow_one, Nat.pow_succ, Nat.div_div_eq_div_mul]
      have hlt : n / 2 ^ i < 340282366920938463463374607431768211456 := Nat.lt_of_le_of_lt (Nat.div_le_self _ _) hn
      have kr := fun w => wright_any (n := n / 2 ^ i) (k := 1) (by omega) hlt w
      rw [← hx2] at kr
      obtain ⟨x, hxx⟩ : ∃ x, x = n / 2 ^ i := ⟨_, rfl⟩
      obtain ⟨y, hyy⟩ : ∃ y, y = n / 2 ^ (i + 1) := ⟨_, rfl⟩
      rw [← hxx] at hC c0 c1 kr hx
      rw [← hyy] at kr
      have kr2 : ∀ w, Calls Tryz.prog 104 #[.agg #[.int .u64 (((x : Nat) : Int) / 18446744073709551616), .int .u64 (((x : Nat) : Int) % 18446744073709551616)], .int .i64 1] w fun e w' => e = .returned (.agg #[.int .u64 (((y : Nat) : Int) / 18446744073709551616), .int .u64 (((y : Nat) : Int) % 18446744073709551616)]) ∧ Below w.heap.size w w' := kr
      have HST : Hid (∀ wx : World, WAt wx w.heap.size x → WAt ((wx.setCell ⟨w.heap.size, 0, none⟩ (.int .u64 (((y : Nat) : Int) / 18446744073709551616))).setCell ⟨w.heap.size, 1, none⟩ (.int .u64 (((y : Nat) : Int) % 18446744073709551616))) w.heap.size y) := fun wx h => h.store
      have hw1 : IntKind.i64.wrap (((i : Nat) : Int) + 1) = ((i : Nat) : Int) + 1 := by
        rw [IntKind.wrap_i64]
        omega
      have hne : (0 < (((x : Nat) : Int) / 18446744073709551616)) ∨ (¬ (0 < (((x : Nat) : Int) / 18446744073709551616)) ∧ 0 < (((x : Nat) : Int) % 18446744073709551616)) := by omega
      have HC := Lib.hid hC
      have HY := Lib.hid hyy
      clear hx hx2 hlt HL hxx kr hC hyy
      have hsz := hbw.size
      rcases hne with h1 | ⟨h1, h2⟩
      · go_wp2_with (go_at_call 104; go_loud (refine (kr2 _).mono ?_; rintro e w2 ⟨rfl, hb⟩; have hC2 := Cells.keep HC.out hb; have s0 := Cells.fz hC2 0; have s1 := Cells.fz hC2 1; have d0 := WAt.c0 hC2; have d1 := WAt.c1 hC2; have HC2 := Lib.hid hC2; clear hC2; have HB := Lib.hid (grow_to hbw hb); clear hb))
        go_roundw
        case rel => exact ⟨i + 1, by first | rfl | simp, by omega, by rw [← HY.out]; exact HST.out _ HC2.out, bel_store HB.out (Nat.le_refl _) _ _, HL2.out⟩
        case measure => simp [intOf]; omega
      · go_wp2_with (go_at_call 104; go_loud (refine (kr2 _).mono ?_; rintro e w2 ⟨rfl, hb⟩; have hC2 := Cells.keep HC.out hb; have s0 := Cells.fz hC2 0; have s1 := Cells.fz hC2 1; have d0 := WAt.c0 hC2; have d1 := WAt.c1 hC2; have HC2 := Lib.hid hC2; clear hC2; have HB := Lib.hid (grow_to hbw hb); clear hb))
        go_roundw
        case rel => exact ⟨i + 1, by first | rfl | simp, by omega, by rw [← HY.out]; exact HST.out _ HC2.out, bel_store HB.out (Nat.le_refl _) _ _, HL2.out⟩
        case measure => simp [intOf]; omega


theorem taken_any {a : Nat} (ha : a < 2 * signB) : Told 53 #[.int .u64 ((a : Nat) : Int)] (.tuple #[.int .u64 ((takenM (a % signB) : Nat) : Int), .int .i64 (takenE (a % signB))]) := by
  intro w
  have f1 : bits .and .u64 (((a : Nat) : Int) / 4503599627370496) 2047 = ((a / 4503599627370496 % 2048 : Nat) : Int) := by
    have h := u64_and_nat (a / 4503599627370496) 2047 (by unfold signB at ha; omega) (by decide)
    rw [show a / 4503599627370496 &&& 2047 = a / 4503599627370496 % 2048 from Nat.and_two_pow_sub_one_eq_mod _ 11] at h
    exact h
  have f2 := and_frac ha
  have f4 : bits .or .u64 ((a % 4503599627370496 : Nat) : Int) 4503599627370496 = ((4503599627370496 + a % 4503599627370496 : Nat) : Int) := by
    have h : bits .or .u64 ((a % 4503599627370496 : Nat) : Int) 4503599627370496 = ((a % 4503599627370496 ||| 4503599627370496 : Nat) : Int) := u64_or_nat (a % 4503599627370496) 4503599627370496 (by omega) (by decide)
    rw [Nat.or_comm, nat_join 52 4503599627370496 (a % 4503599627370496) (by decide) (by omega)] at h
    exact h
  by_cases c : a / 4503599627370496 % 2048 = 0
  · have hr : takenM (a % signB) = a % 4503599627370496 ∧ takenE (a % signB) = -1074 := by
      unfold takenM takenE signB
      have hlt : a % 9223372036854775808 < 4503599627370496 := by omega
      rw [if_pos hlt, if_pos hlt]
      exact ⟨by omega, rfl⟩
    rw [hr.1, hr.2]
    rw [c] at f1
    obtain ⟨M, hM⟩ : ∃ z : Int, z = ((a % 4503599627370496 : Nat) : Int) := ⟨_, rfl⟩
    rw [← hM] at f2 f4 ⊢
    clear hM hr c ha
    go_enter Tryz.func53, Tryz.ntmps53
    go_wp2
    go_ret2
    exact ⟨rfl, 0, rfl⟩
  · have hr : takenM (a % signB) = 4503599627370496 + a % 4503599627370496 ∧ takenE (a % signB) = ((a / 4503599627370496 % 2048 : Nat) : Int) - 1075 := by
      unfold takenM takenE signB
      have hlt : ¬ a % 9223372036854775808 < 4503599627370496 := by omega
      rw [if_neg hlt, if_neg hlt]
      exact ⟨by omega, by omega⟩
    rw [hr.1, hr.2]
    have c2 : ¬ ((a / 4503599627370496 % 2048 : Nat) : Int) = 0 := by omega
    have c3 : 0 ≤ ((a / 4503599627370496 % 2048 : Nat) : Int) ∧ ((a / 4503599627370496 % 2048 : Nat) : Int) < 2048 := by omega
    obtain ⟨X, hX⟩ : ∃ z : Int, z = ((a / 4503599627370496 % 2048 : Nat) : Int) := ⟨_, rfl⟩
    obtain ⟨Z, hZ⟩ : ∃ z : Int, z = ((4503599627370496 + a % 4503599627370496 : Nat) : Int) := ⟨_, rfl⟩
    obtain ⟨M, hM⟩ : ∃ z : Int, z = ((a % 4503599627370496 : Nat) : Int) := ⟨_, rfl⟩
    rw [← hX] at f1 c2 c3 ⊢
    rw [← hZ] at f4 ⊢
    rw [← hM] at f2 f4
    have w1 : IntKind.i64.wrap X = X := by
      rw [IntKind.wrap_i64]
      omega
    have w2 : IntKind.i64.wrap (X - 1075) = X - 1075 := by
      rw [IntKind.wrap_i64]
      omega
    clear hM hr c ha hX hZ
    go_enter Tryz.func53, Tryz.ntmps53
    go_wp2
    go_ret2
    exact ⟨rfl, 0, rfl⟩

end Go.Proofs.YtjloiclbknfomaaGreatDoor

namespace Go.Proofs.YtjloiclbknfomaaGreatDoor
open Go.RowKit Ieee

/-- what stands in the amount's variable at the end -/
def rndMid (w : Nat) (e : Int) (rest : Bool) : Nat := if rndQ w e - e ≤ 0 then w * 2 ^ (e - rndQ w e).toNat else rndM w (rndQ w e - e).toNat rest
theorem rndR_is (w : Nat) (e : Int) (rest : Bool) : rndR w e rest = if 127 < rndQ w e - e then 0 else if 971 < rndQ w e then infB else if infB ≤ (rndQ w e + 1074).toNat * 4503599627370496 + rndMid w e rest then infB else (rndQ w e + 1074).toNat * 4503599627370496 + rndMid w e rest := rfl
def sgn (s : Bool) : Nat := if s then 9223372036854775808 else 0
theorem word_sgn (s : Bool) (r : Nat) : D.word s r = sgn s + r := by
  unfold Format.word sgn
  rw [D_sw]
  cases s <;> simp
theorem or_sgn (s : Bool) {r : Nat} (hr : r < 9223372036854775808) : bits .or .u64 ((sgn s : Nat) : Int) ((r : Nat) : Int) = ((sgn s + r : Nat) : Int) := by
  have h := u64_or_nat (sgn s) r (by unfold sgn; split <;> omega) (by omega)
  have e : sgn s ||| r = sgn s + r := by
    cases s
    · show 0 ||| r = 0 + r
      rw [Nat.zero_or, Nat.zero_add]
    · exact nat_join 63 9223372036854775808 r (by decide) hr
  rw [e] at h
  exact h
theorem bel_drew {w x : World} (h : Below w.heap.size w x) : Below w.heap.size w x.drew := ⟨h.os, h.tape, h.output, h.size, h.block⟩
theorem cell_off (w : World) {p q : Addr} (h : q.block ≠ p.block) (v : Value) : (w.setCell q v).cell? p = w.cell? p := by
  have hb := Below.heap_setCell w q v p.block (fun e => h e.symm)
  unfold World.cell?
  rw [hb]
theorem wide_eql (a b : Nat) (w : World) (ha : a < 340282366920938463463374607431768211456) (hb : b < 340282366920938463463374607431768211456) : (binOp .eql 111 (.agg #[.int .u64 (((a : Nat) : Int) / 18446744073709551616), .int .u64 (((a : Nat) : Int) % 18446744073709551616)]) (.agg #[.int .u64 (((b : Nat) : Int) / 18446744073709551616), .int .u64 (((b : Nat) : Int) % 18446744073709551616)])).run Tryz.prog w = .ok (.bool (decide (a = b))) w := by
  simp [go_sem]
  by_cases h : a = b
  · subst h
    simp
  · rw [decide_eq_false h]
    repeat' split
    all_goals first | rfl | (exfalso; omega)
theorem WAt.up {w : World} {g n : Nat} (h : WAt w g n) (hn : n < 9007199254740992) : WAt (w.setCell ⟨g, 1, none⟩ (.int .u64 (((n : Nat) : Int) + 1))) g (n + 1) := by
  have h2 := Cells.set h 1 (.int .u64 (((n : Nat) : Int) + 1))
  have e : (wc n).setIfInBounds 1 (.int .u64 (((n : Nat) : Int) + 1)) = wc (n + 1) := by
    unfold wc
    rw [show (((n + 1 : Nat)) : Int) / 18446744073709551616 = ((n : Nat) : Int) / 18446744073709551616 from by omega, show (((n + 1 : Nat)) : Int) % 18446744073709551616 = ((n : Nat) : Int) + 1 from by omega]
    rfl
  rw [e] at h2
  exact h2
theorem rndMid_le (w : Nat) (e : Int) (rest : Bool) : rndMid w e rest ≤ 9007199254740992 := by
  unfold rndMid
  by_cases h : rndQ w e - e ≤ 0
  · rw [if_pos h]
    exact Nat.le_of_lt (rnd_left h).1
  · rw [if_neg h]
    have := rnd_right (w := w) (e := e) (by omega)
    unfold rndM
    split <;> omega
theorem rndQ_ge (w : Nat) (e : Int) : -1074 ≤ rndQ w e := by
  unfold rndQ
  split <;> omega

set_option maxHeartbeats 8000000 in
set_option maxRecDepth 100000 in
theorem rounded_any (s rest : Bool) {w : Nat} {e : Int} (hw : w < 340282366920938463463374607431768211456) (he0 : -5000 ≤ e) (he1 : e ≤ 5000) (W : World) :
    Calls Tryz.prog 68 #[.int .u64 ((sgn s : Nat) : Int), wv w, .int .i64 e, .bool rest] W fun x W' => x = .returned (.int .u64 ((rnd s w e rest : Nat) : Int)) ∧ Below W.heap.size W W' := by
  have hL := bitLen_le (n := w) (k := 128) hw
  have kl : ∀ x : World, Calls Tryz.prog 103 #[.agg #[.int .u64 (((w : Nat) : Int) / 18446744073709551616), .int .u64 (((w : Nat) : Int) % 18446744073709551616)]] x fun r x' => r = .returned (.int .i64 ((bitLen w : Nat) : Int)) ∧ Below x.heap.size x x' := fun x => wlength_any hw x
  have hQ : rndQ w e = if e + ((bitLen w : Nat) : Int) - 53 < -1074 then -1074 else e + ((bitLen w : Nat) : Int) - 53 := rfl
  have hq0 := rndQ_ge w e
  have hq1 : rndQ w e ≤ 6000 := by
    rw [hQ]
    split <;> omega
  have HR : Hid (rnd s w e rest = sgn s + rndR w e rest) := word_sgn s _
  have HRR := Lib.hid (rndR_is w e rest)
  have hm := rndMid_le w e rest
  have HM : Hid (rndMid w e rest = if rndQ w e - e ≤ 0 then w * 2 ^ (e - rndQ w e).toNat else rndM w (rndQ w e - e).toNat rest) := rfl
  have HLeft := Lib.hid (@rnd_left w e)
  have HRight := Lib.hid (@rnd_right w e)
  obtain ⟨Q, hQQ⟩ : ∃ Q : Int, Q = rndQ w e := ⟨_, rfl⟩
  obtain ⟨m, hmm⟩ : ∃ m : Nat, m = rndMid w e rest := ⟨_, rfl⟩
  rw [← hQQ] at hQ hq0 hq1 HRR HM HLeft HRight
  rw [← hmm] at hm HRR HM
  clear hmm hQQ
  obtain ⟨L, hLL⟩ : ∃ L : Int, L = ((bitLen w : Nat) : Int) := ⟨_, rfl⟩
  have hL1 : 0 ≤ L ∧ L ≤ 128 := by omega
  rw [← hLL] at kl hQ
  clear hLL hL
  have HQ := Lib.hid hQ
  clear hQ
  have HW := Lib.hid hw
  clear hw
  have a1 : IntKind.i64.wrap (e + L) = e + L := by
    rw [IntKind.wrap_i64]
    omega
  have a2 : IntKind.i64.wrap (e + L - 53) = e + L - 53 := by
    rw [IntKind.wrap_i64]
    omega
  have a3 : IntKind.i64.wrap (Q - e) = Q - e := by
    rw [IntKind.wrap_i64]
    omega
  rw [wv_is]
  go_enter Tryz.func68, Tryz.ntmps68
  go_upto_if 23 with ((go_at_call 103; go_loud (refine (kl _).mono ?_; rintro x w1 ⟨rfl, hb⟩; have H5 := Lib.hid (Cells.keep (Cells.new W 111 (wc w)) hb); have HB := Lib.hid (grow_to (bel_alloc (Below.refl _ W) _) hb); clear hb)))
  go_cut [9] (fun s9 wx => s9 = .int .i64 Q ∧ WAt wx W.heap.size w ∧ Below W.heap.size W wx)
  case first =>
    by_cases c : e + L - 53 < -1074
    · have HC : Hid (Q = -1074) := by
        have h := HQ.out
        rw [if_pos c] at h
        exact h
      go_wp2
      go_meet
      exact ⟨by rw [HC.out], H5.out, HB.out⟩
    · have HC : Hid (Q = e + L - 53) := by
        have h := HQ.out
        rw [if_neg c] at h
        exact h
      go_wp2
      go_meet
      exact ⟨by rw [HC.out], H5.out, HB.out⟩
  case rest =>
    obtain ⟨rfl, h5, hB⟩ := hcut
    have HB := Lib.hid hB
    have d0 := WAt.c0 h5
    have d1 := WAt.c1 h5
    have H5 := Lib.hid h5
    clear h5 hB a1 a2 HQ hL1 kl
    by_cases hA : 127 < Q - e
    · have HV : Hid (rnd s w e rest = sgn s) := by
        have h := HRR.out
        rw [if_pos hA] at h
        have h2 := HR.out
        rw [h] at h2
        exact h2
      go_wp2
      go_ret
      exact ⟨by rw [HV.out]; rfl, HB.out⟩
    · have hlt5 : W.heap.size < wc.heap.size := Cells.lt H5.out
      go_upto_if 32 with (fail)
      obtain ⟨wd, rfl⟩ : ∃ wd : World, wd = wc := ⟨wc, rfl⟩
      go_cut [11] (fun s11 wx => s11 = .pointer (some ⟨wd.heap.size, 0, none⟩) ∧ WAt wx wd.heap.size m ∧ Below W.heap.size W wx)
      case first =>
        have HN := Lib.hid (Cells.new wd 111 (wc w))
        by_cases hB0 : Q - e ≤ 0
        · obtain ⟨hl1, hl2⟩ := HLeft.out hB0
          obtain ⟨k, hk⟩ : ∃ k : Nat, k = (e - Q).toNat := ⟨_, rfl⟩
          have hmk : m = w * 2 ^ k := by
            have h := HM.out
            rw [if_pos hB0, ← hk] at h
            exact h
          rw [← hk] at hl1 hl2
          have kl := fun x => wleft_any (n := w) (k := k) (by omega) (by omega) x
          rw [← hmk] at kl
          have hki : ((k : Nat) : Int) = -(Q - e) := by omega
          rw [hki] at kl
          have n1 : IntKind.i64.wrap (-(Q - e)) = -(Q - e) := by
            rw [IntKind.wrap_i64]
            omega
          have kl2 : ∀ x : World, Calls Tryz.prog 67 #[.agg #[.int .u64 (((w : Nat) : Int) / 18446744073709551616), .int .u64 (((w : Nat) : Int) % 18446744073709551616)], .int .i64 (-(Q - e))] x fun r x' => r = .returned (.agg #[.int .u64 (((m : Nat) : Int) / 18446744073709551616), .int .u64 (((m : Nat) : Int) % 18446744073709551616)]) ∧ Below x.heap.size x x' := kl
          obtain ⟨N, hN⟩ : ∃ N : Int, N = -(Q - e) := ⟨_, rfl⟩
          clear kl hl1 hl2 hk hmk hki
          go_wp2_with (go_at_call 67; go_loud (refine (kl2 _).mono ?_; rintro x w3 ⟨rfl, hb3⟩; have hC := Cells.keep HN.out hb3; have s0 := Cells.fz hC 0; have s1 := Cells.fz hC 1; have d0 := WAt.c0 hC; have d1 := WAt.c1 hC; have HC := Lib.hid hC; have HB3 := Lib.hid (grow_to (bel_alloc HB.out _) hb3); clear hC hb3))
          go_meet
          exact ⟨rfl, WAt.store HC.out, bel_store HB3.out (Nat.le_of_lt hlt5) _ _⟩
        · have hr1 := HRight.out (by omega)
          obtain ⟨k, hk⟩ : ∃ k : Nat, k = (Q - e).toNat := ⟨_, rfl⟩
          have hki : ((k : Nat) : Int) = Q - e := by omega
          have hk1 : 1 ≤ k := by omega
          have hk2 : k ≤ 127 := by omega
          have hmk : m = rndM w k rest := by
            have h := HM.out
            rw [if_neg hB0, ← hk] at h
            exact h
          rw [← hk] at hr1
          have kr := fun x => wright_any (n := w) (k := k) (by omega) HW.out x
          rw [hki] at kr
          obtain ⟨v, hv⟩ : ∃ v, v = w / 2 ^ k := ⟨_, rfl⟩
          rw [← hv] at kr hr1
          have kr2 : ∀ x : World, Calls Tryz.prog 104 #[.agg #[.int .u64 (((w : Nat) : Int) / 18446744073709551616), .int .u64 (((w : Nat) : Int) % 18446744073709551616)], .int .i64 (Q - e)] x fun r x' => r = .returned (.agg #[.int .u64 (((v : Nat) : Int) / 18446744073709551616), .int .u64 (((v : Nat) : Int) % 18446744073709551616)]) ∧ Below x.heap.size x x' := kr
          have HK := Lib.hid hk
          have HV := Lib.hid hv
          have HMK := Lib.hid hmk
          have HKI := Lib.hid hki
          clear kr hk hv hmk hki
          go_upto_region 11 with (go_at_call 104; go_loud (refine (kr2 _).mono ?_; rintro x w3 ⟨rfl, hb3⟩; have hC := Cells.keep HN.out hb3; have s0 := Cells.fz hC 0; have s1 := Cells.fz hC 1; have d0 := WAt.c0 hC; have d1 := WAt.c1 hC; have HC := Lib.hid hC; have HC5 := Lib.hid (Cells.keep (Cells.alloc H5.out _) hb3); have HB3 := Lib.hid (grow_to (bel_alloc HB.out _) hb3); clear hC hb3))
          have hG : W.heap.size ≠ wd.heap.size := by omega
          have HCG := Lib.hid (WAt.store (m := v) HC.out)
          have HC5' := Lib.hid (Cells.far (Cells.far HC5.out (a := ⟨wd.heap.size, 0, none⟩) hG (.int .u64 (((v : Nat) : Int) / 18446744073709551616))) (a := ⟨wd.heap.size, 1, none⟩) hG (.int .u64 (((v : Nat) : Int) % 18446744073709551616)))
          have HB3' := Lib.hid (bel_store HB3.out (Nat.le_of_lt hlt5) (.int .u64 (((v : Nat) : Int) / 18446744073709551616)) (.int .u64 (((v : Nat) : Int) % 18446744073709551616)))
          obtain ⟨wy, hwy⟩ : ∃ wy, wy = (w3.setCell ⟨wd.heap.size, 0, none⟩ (.int .u64 (((v : Nat) : Int) / 18446744073709551616))).setCell ⟨wd.heap.size, 1, none⟩ (.int .u64 (((v : Nat) : Int) % 18446744073709551616)) := ⟨_, rfl⟩
          rw [← hwy] at HCG HC5' HB3' ⊢
          have e0 := WAt.c0 HC5'.out
          have e1 := WAt.c1 HC5'.out
          have g0 := WAt.c0 HCG.out
          have g1 := WAt.c1 HCG.out
          clear hwy HC HC5 HB3 kr2 s0 s1 d0 d1
          obtain ⟨u, hu⟩ : ∃ u, u = v * 2 ^ k := ⟨_, rfl⟩
          obtain ⟨c, hc⟩ : ∃ c, c = w % 2 ^ k := ⟨_, rfl⟩
          have hcut := cut_is w k
          rw [← HV.out, ← hu, ← hc] at hcut
          have hWW := HW.out
          have kl3 := fun x => wleft_any (n := v) (k := k) (by omega) (by omega) x
          rw [HKI.out, ← hu] at kl3
          have kl4 : ∀ x : World, Calls Tryz.prog 67 #[.agg #[.int .u64 (((v : Nat) : Int) / 18446744073709551616), .int .u64 (((v : Nat) : Int) % 18446744073709551616)], .int .i64 (Q - e)] x fun r x' => r = .returned (.agg #[.int .u64 (((u : Nat) : Int) / 18446744073709551616), .int .u64 (((u : Nat) : Int) % 18446744073709551616)]) ∧ Below x.heap.size x x' := kl3
          have km := fun x => wminus_any (n := w) (m := u) (by omega) hWW x
          rw [hcut.1] at km
          have km2 : ∀ x : World, Calls Tryz.prog 70 #[.agg #[.int .u64 (((w : Nat) : Int) / 18446744073709551616), .int .u64 (((w : Nat) : Int) % 18446744073709551616)], .agg #[.int .u64 (((u : Nat) : Int) / 18446744073709551616), .int .u64 (((u : Nat) : Int) % 18446744073709551616)]] x fun r x' => r = .returned (.agg #[.int .u64 (((c : Nat) : Int) / 18446744073709551616), .int .u64 (((c : Nat) : Int) % 18446744073709551616)]) ∧ Below x.heap.size x x' := km
          have HCU := Lib.hid hc
          clear kl3 km hu hc hcut hWW
          have HKP := Lib.hid fun (wx wz : World) (hw : Below wx.heap.size wx wz) (h : wx.cell? ⟨W.heap.size, 0, none⟩ = some (.int .u64 (((w : Nat) : Int) / 18446744073709551616)) ∧ wx.cell? ⟨W.heap.size, 1, none⟩ = some (.int .u64 (((w : Nat) : Int) % 18446744073709551616)) ∧ wx.cell? ⟨wd.heap.size, 0, none⟩ = some (.int .u64 (((v : Nat) : Int) / 18446744073709551616)) ∧ wx.cell? ⟨wd.heap.size, 1, none⟩ = some (.int .u64 (((v : Nat) : Int) % 18446744073709551616))) => (show wz.cell? ⟨W.heap.size, 0, none⟩ = some (.int .u64 (((w : Nat) : Int) / 18446744073709551616)) ∧ wz.cell? ⟨W.heap.size, 1, none⟩ = some (.int .u64 (((w : Nat) : Int) % 18446744073709551616)) ∧ wz.cell? ⟨wd.heap.size, 0, none⟩ = some (.int .u64 (((v : Nat) : Int) / 18446744073709551616)) ∧ wz.cell? ⟨wd.heap.size, 1, none⟩ = some (.int .u64 (((v : Nat) : Int) % 18446744073709551616)) from
            ⟨(hw.cell (World.block_lt_of_cell? _ _ h.1)).trans h.1, (hw.cell (World.block_lt_of_cell? _ _ h.2.1)).trans h.2.1, (hw.cell (World.block_lt_of_cell? _ _ h.2.2.1)).trans h.2.2.1, (hw.cell (World.block_lt_of_cell? _ _ h.2.2.2)).trans h.2.2.2⟩)
          have HSy : Hid (wy.cell? ⟨W.heap.size, 0, none⟩ = some (.int .u64 (((w : Nat) : Int) / 18446744073709551616)) ∧ wy.cell? ⟨W.heap.size, 1, none⟩ = some (.int .u64 (((w : Nat) : Int) % 18446744073709551616)) ∧ wy.cell? ⟨wd.heap.size, 0, none⟩ = some (.int .u64 (((v : Nat) : Int) / 18446744073709551616)) ∧ wy.cell? ⟨wd.heap.size, 1, none⟩ = some (.int .u64 (((v : Nat) : Int) % 18446744073709551616))) := ⟨e0, e1, g0, g1⟩
          have hz0 : W.heap.size < wd.heap.size := hlt5
          have hz1 : wd.heap.size < wy.heap.size := Cells.lt HCG.out
          have HKS : Hid (∀ (wx : World) (g : Nat) (a b : Value), (wx.cell? ⟨W.heap.size, 0, none⟩ = some (.int .u64 (((w : Nat) : Int) / 18446744073709551616)) ∧ wx.cell? ⟨W.heap.size, 1, none⟩ = some (.int .u64 (((w : Nat) : Int) % 18446744073709551616)) ∧ wx.cell? ⟨wd.heap.size, 0, none⟩ = some (.int .u64 (((v : Nat) : Int) / 18446744073709551616)) ∧ wx.cell? ⟨wd.heap.size, 1, none⟩ = some (.int .u64 (((v : Nat) : Int) % 18446744073709551616))) → g ≠ W.heap.size → g ≠ wd.heap.size → (((wx.setCell ⟨g, 0, none⟩ a).setCell ⟨g, 1, none⟩ b).cell? ⟨W.heap.size, 0, none⟩ = some (.int .u64 (((w : Nat) : Int) / 18446744073709551616)) ∧ ((wx.setCell ⟨g, 0, none⟩ a).setCell ⟨g, 1, none⟩ b).cell? ⟨W.heap.size, 1, none⟩ = some (.int .u64 (((w : Nat) : Int) % 18446744073709551616)) ∧ ((wx.setCell ⟨g, 0, none⟩ a).setCell ⟨g, 1, none⟩ b).cell? ⟨wd.heap.size, 0, none⟩ = some (.int .u64 (((v : Nat) : Int) / 18446744073709551616)) ∧ ((wx.setCell ⟨g, 0, none⟩ a).setCell ⟨g, 1, none⟩ b).cell? ⟨wd.heap.size, 1, none⟩ = some (.int .u64 (((v : Nat) : Int) % 18446744073709551616)))) := fun wx g a b h h1 h2 => by
            have n1 : ∀ (j j2 : Nat), ∀ x : Value, (wx.setCell ⟨g, j2, none⟩ x).cell? ⟨W.heap.size, j, none⟩ = wx.cell? ⟨W.heap.size, j, none⟩ := fun j j2 x => cell_off wx (by simpa using h1) x
            have n2 : ∀ (j j2 : Nat), ∀ x : Value, (wx.setCell ⟨g, j2, none⟩ x).cell? ⟨wd.heap.size, j, none⟩ = wx.cell? ⟨wd.heap.size, j, none⟩ := fun j j2 x => cell_off wx (by simpa using h2) x
            obtain ⟨q1, q2, q3, q4⟩ := h
            refine ⟨?_, ?_, ?_, ?_⟩
            · exact (cell_off _ (by simpa using h1) b).trans ((n1 0 0 a).trans q1)
            · exact (cell_off _ (by simpa using h1) b).trans ((n1 1 0 a).trans q2)
            · exact (cell_off _ (by simpa using h2) b).trans ((n2 0 0 a).trans q3)
            · exact (cell_off _ (by simpa using h2) b).trans ((n2 1 0 a).trans q4)
          go_cut [12] (fun s12 wx => ∃ g12, s12 = .pointer (some ⟨g12, 0, none⟩) ∧ WAt wx wd.heap.size v ∧ WAt wx g12 c ∧ Below W.heap.size W wx)
          case first =>
            go_region_held3 (fun w' => w'.cell? ⟨W.heap.size, 0, none⟩ = some (.int .u64 (((w : Nat) : Int) / 18446744073709551616)) ∧ w'.cell? ⟨W.heap.size, 1, none⟩ = some (.int .u64 (((w : Nat) : Int) % 18446744073709551616)) ∧ w'.cell? ⟨wd.heap.size, 0, none⟩ = some (.int .u64 (((v : Nat) : Int) / 18446744073709551616)) ∧ w'.cell? ⟨wd.heap.size, 1, none⟩ = some (.int .u64 (((v : Nat) : Int) % 18446744073709551616))) ((first | exact ⟨e0, e1, g0, g1⟩ | exact HSy.out | exact HS4.out | exact HS5.out | exact HKP.out _ _ (bel_alloc (Below.refl _ _) _) HS5.out | exact HKP.out _ _ (bel_alloc (Below.refl _ _) _) HS4.out | exact HKP.out _ _ (bel_alloc (Below.refl _ _) _) HSy.out | exact HKP.out _ _ (bel_drew (bel_alloc (Below.refl _ _) _)) HSy.out | exact HKP.out _ _ (bel_drew (bel_alloc (Below.refl _ _) _)) HS4.out | exact HKP.out _ _ (bel_drew (bel_alloc (Below.refl _ _) _)) HS5.out | exact HKS.out _ _ _ _ HS5.out (by omega) (by omega) | assumption)) ((first | (go_at_call 67; refine (kl4 _).mono ?_; rintro x w4 ⟨rfl, hb4⟩; (first | (have HS4 := Lib.hid (HKP.out _ _ hb4 HSy.out); have hz4 : wy.heap.size ≤ w4.heap.size := hb4.size) | (have HS4 := Lib.hid (HKP.out _ _ hb4 (HKP.out _ _ (bel_alloc (Below.refl _ wy) _) HSy.out)); have hz4 : wy.heap.size ≤ w4.heap.size := Nat.le_trans (bel_alloc (Below.refl _ wy) _).size hb4.size) | (have HS4 := Lib.hid (HKP.out _ _ hb4 (HKP.out _ _ (bel_drew (bel_alloc (Below.refl _ wy) _)) HSy.out)); have hz4 : wy.heap.size ≤ w4.heap.size := Nat.le_trans (bel_drew (bel_alloc (Below.refl _ wy) _)).size hb4.size)); first | (have z := Cells.keep (Cells.new _ _ _) hb4; have z0 := Cells.fz z 0; have z1 := Cells.fz z 1; have y0 := Cells.cell z (j := 0) rfl; have y1 := Cells.cell z (j := 1) rfl; have HZ := Lib.hid z; clear z) | (have z := Cells.keep (Cells.drew (Cells.new wy _ _)) hb4; have z0 := Cells.fz z 0; have z1 := Cells.fz z 1; have y0 := Cells.cell z (j := 0) rfl; have y1 := Cells.cell z (j := 1) rfl; have HZ := Lib.hid z; clear z) | skip) | (go_at_call 70; refine (km2 _).mono ?_; rintro x w5 ⟨rfl, hb5⟩; (first | (have HS5 := Lib.hid (HKP.out _ _ hb5 HS4.out); have hz5 : w4.heap.size ≤ w5.heap.size := hb5.size) | (have HS5 := Lib.hid (HKP.out _ _ hb5 (HKP.out _ _ (bel_alloc (Below.refl _ w4) _) HS4.out)); have hz5 : w4.heap.size ≤ w5.heap.size := Nat.le_trans (bel_alloc (Below.refl _ w4) _).size hb5.size)); first | (have z := Cells.keep (Cells.new _ _ _) hb5; have z0 := Cells.fz z 0; have z1 := Cells.fz z 1; have y0 := Cells.cell z (j := 0) rfl; have y1 := Cells.cell z (j := 1) rfl; have HZ := Lib.hid z; clear z) | (have z := Cells.keep HZ.out hb5; have z0 := Cells.fz z 0; have z1 := Cells.fz z 1; have y0 := Cells.cell z (j := 0) rfl; have y1 := Cells.cell z (j := 1) rfl; have HZ := Lib.hid z; clear z) | skip)))
            · go_wp2_with fail
              go_meet
              exact ⟨_, rfl, Cells.alloc (Cells.keep (Cells.keep (Cells.drew HCG.out) hb4) hb5) _, Cells.new w5 111 (wc c), bel_alloc (grow_to (grow_to (bel_drew HB3'.out) hb4) hb5) _⟩
            · go_wp2_with fail
              go_meet
              exact ⟨_, rfl, Cells.far (Cells.far (Cells.keep (Cells.alloc (Cells.keep (Cells.drew HCG.out) hb4) _) hb5) (a := ⟨w4.heap.size, 0, none⟩) (by show wd.heap.size ≠ w4.heap.size; omega) _) (a := ⟨w4.heap.size, 1, none⟩) (by show wd.heap.size ≠ w4.heap.size; omega) _, Cells.set (Cells.set HZ.out 0 _) 1 _, bel_store (grow_to (bel_alloc (grow_to (bel_drew HB3'.out) hb4) _) hb5) (by omega) _ _⟩
            · go_wp2_with fail
              go_meet
              exact ⟨_, rfl, Cells.far (Cells.far (Cells.keep (Cells.keep (Cells.drew (Cells.alloc HCG.out _)) hb4) hb5) (a := ⟨wy.heap.size, 0, none⟩) (by show wd.heap.size ≠ wy.heap.size; omega) _) (a := ⟨wy.heap.size, 1, none⟩) (by show wd.heap.size ≠ wy.heap.size; omega) _, Cells.set (Cells.set HZ.out 0 _) 1 _, bel_store (grow_to (grow_to (bel_drew (bel_alloc HB3'.out _)) hb4) hb5) (by omega) _ _⟩
          case rest =>
            obtain ⟨g12, rfl, hcg, hc12, hbe⟩ := hcut
            obtain ⟨we, rfl⟩ : ∃ we : World, we = wc := ⟨wc, rfl⟩
            have HC12 := Lib.hid hc12
            have HCGe := Lib.hid hcg
            have HBe := Lib.hid hbe
            clear hc12 hcg hbe
            obtain ⟨md, hmd⟩ : ∃ md, md = 2 ^ (k - 1) := ⟨_, rfl⟩
            have hmd2 : md < 340282366920938463463374607431768211456 := by
              rw [hmd]
              exact Nat.lt_of_le_of_lt (Nat.pow_le_pow_right (by decide) (show k - 1 ≤ 126 by omega)) (by decide)
            have hcl : c < 340282366920938463463374607431768211456 := Nat.lt_of_le_of_lt (Nat.le_trans (Nat.le_of_eq HCU.out) (Nat.mod_le _ _)) HW.out
            have km3 := fun x => wleft_any (n := 1) (k := k - 1) (by omega) (by rw [Nat.one_mul, ← hmd]; exact hmd2) x
            rw [Nat.one_mul, ← hmd] at km3
            have hki1 : ((k - 1 : Nat) : Int) = Q - e - 1 := by
              have := HKI.out
              omega
            rw [hki1] at km3
            have km4 : ∀ x : World, Calls Tryz.prog 67 #[.agg #[.int .u64 0, .int .u64 1], .int .i64 (Q - e - 1)] x fun r x' => r = .returned (.agg #[.int .u64 (((md : Nat) : Int) / 18446744073709551616), .int .u64 (((md : Nat) : Int) % 18446744073709551616)]) ∧ Below x.heap.size x x' := km3
            have kl5 := fun x => wless_any (n := md) (m := c) hmd2 hcl x
            have n2 : IntKind.i64.wrap (Q - e - 1) = Q - e - 1 := by
              rw [IntKind.wrap_i64]
              omega
            have hodd : bits .and .u64 (((v : Nat) : Int) % 18446744073709551616) 1 = ((v % 2 : Nat) : Int) := by
              have h : bits .and .u64 ((v : Nat) : Int) ((1 : Nat) : Int) = ((v &&& 1 : Nat) : Int) := u64_and_nat v 1 (by omega) (by decide)
              rw [Nat.and_one_is_mod] at h
              rw [show (((v : Nat) : Int) % 18446744073709551616) = ((v : Nat) : Int) from by omega]
              exact h
            have hup : IntKind.u64.wrap ((((v : Nat) : Int) % 18446744073709551616) + 1) = ((v : Nat) : Int) + 1 := by
              rw [IntKind.wrap_u64]
              omega
            have heq := fun x => wide_eql c md x hcl hmd2
            have HMD := Lib.hid hmd
            clear km3 hki1 hmd hcl hmd2 kl4 km2 HKP HSy e0 e1 g0 g1 HKS
            by_cases c1 : md < c
            · have kless : ∀ x : World, Calls Tryz.prog 105 #[.agg #[.int .u64 (((md : Nat) : Int) / 18446744073709551616), .int .u64 (((md : Nat) : Int) % 18446744073709551616)], .agg #[.int .u64 (((c : Nat) : Int) / 18446744073709551616), .int .u64 (((c : Nat) : Int) % 18446744073709551616)]] x fun r x' => r = .returned (.bool true) ∧ Below x.heap.size x x' := fun x => by
                have h := kl5 x
                rw [decide_eq_true c1] at h
                exact h
              clear kl5
              have HMu : Hid (m = v + 1) := by
                have h := HMK.out
                unfold rndM at h
                rw [← HV.out, ← HCU.out, ← HMD.out, if_pos (.inl c1)] at h
                exact h
              clear c1
              go_wp2_with (first | (go_at_call 67; go_loud (refine (km4 _).mono ?_; rintro x w6 ⟨rfl, hb6⟩; have hx12 := Cells.keep (Cells.alloc HC12.out _) hb6; have hxG := Cells.keep (Cells.alloc HCGe.out _) hb6; have HC12b := Lib.hid hx12; have HCGb := Lib.hid hxG; have HBe6 := Lib.hid (grow_to (bel_alloc HBe.out _) hb6); have x0 := WAt.c0 hx12; have x1 := WAt.c1 hx12; have v0 := WAt.c0 hxG; have v1 := WAt.c1 hxG; have hlt6 : wd.heap.size < w6.heap.size := Cells.lt hxG; have hlt12 : g12 < w6.heap.size := Cells.lt hx12; clear hb6 hx12 hxG)) | (go_at_call 105; go_loud (refine (kless _).mono ?_; rintro x w7 ⟨rfl, hb7⟩; have hx12 := Cells.keep (Cells.alloc HC12b.out _) hb7; have hxG := Cells.keep (Cells.alloc HCGb.out _) hb7; have hx14 := Cells.keep (Cells.new w6 111 (wc md)) hb7; have HCGc := Lib.hid hxG; have HBe7 := Lib.hid (grow_to (bel_alloc HBe6.out _) hb7); have y0 := WAt.c0 hx12; have y1 := WAt.c1 hx12; have t0 := WAt.c0 hx14; have t1 := WAt.c1 hx14; have u0 := WAt.c0 hxG; have u1 := WAt.c1 hxG; have r0 := Cells.fz hxG 0; have r1 := Cells.fz hxG 1; clear hb7 hx12 hxG hx14)))
              go_meet
              exact ⟨rfl, by rw [HMu.out]; exact WAt.up HCGc.out hr1, HBe7.out.setCell (Nat.le_of_lt hlt5) _⟩
            · have kless : ∀ x : World, Calls Tryz.prog 105 #[.agg #[.int .u64 (((md : Nat) : Int) / 18446744073709551616), .int .u64 (((md : Nat) : Int) % 18446744073709551616)], .agg #[.int .u64 (((c : Nat) : Int) / 18446744073709551616), .int .u64 (((c : Nat) : Int) % 18446744073709551616)]] x fun r x' => r = .returned (.bool false) ∧ Below x.heap.size x x' := fun x => by
                have h := kl5 x
                rw [decide_eq_false c1] at h
                exact h
              clear kl5
              by_cases c2 : c = md
              · have heq2 : ∀ x, (binOp .eql 111 (.agg #[.int .u64 (((c : Nat) : Int) / 18446744073709551616), .int .u64 (((c : Nat) : Int) % 18446744073709551616)]) (.agg #[.int .u64 (((md : Nat) : Int) / 18446744073709551616), .int .u64 (((md : Nat) : Int) % 18446744073709551616)])).run Tryz.prog x = .ok (.bool true) x := fun x => by
                  have h := heq x
                  rw [decide_eq_true c2] at h
                  exact h
                clear heq
                have HC1 := Lib.hid c1
                have HC2 := Lib.hid c2
                clear c1 c2
                cases rest with
                | true =>
                  have HMu : Hid (m = v + 1) := by
                    have h := HMK.out
                    unfold rndM at h
                    rw [← HV.out, ← HCU.out, ← HMD.out, if_pos (.inr ⟨HC2.out, .inl rfl⟩)] at h
                    exact h
                  go_wp2_with (first | (go_at_call 67; go_loud (refine (km4 _).mono ?_; rintro x w6 ⟨rfl, hb6⟩; have hx12 := Cells.keep (Cells.alloc HC12.out _) hb6; have hxG := Cells.keep (Cells.alloc HCGe.out _) hb6; have HC12b := Lib.hid hx12; have HCGb := Lib.hid hxG; have HBe6 := Lib.hid (grow_to (bel_alloc HBe.out _) hb6); have x0 := WAt.c0 hx12; have x1 := WAt.c1 hx12; have v0 := WAt.c0 hxG; have v1 := WAt.c1 hxG; have hlt6 : wd.heap.size < w6.heap.size := Cells.lt hxG; have hlt12 : g12 < w6.heap.size := Cells.lt hx12; clear hb6 hx12 hxG)) | (go_at_call 105; go_loud (refine (kless _).mono ?_; rintro x w7 ⟨rfl, hb7⟩; have hx12 := Cells.keep (Cells.alloc HC12b.out _) hb7; have hxG := Cells.keep (Cells.alloc HCGb.out _) hb7; have hx14 := Cells.keep (Cells.new w6 111 (wc md)) hb7; have HCGc := Lib.hid hxG; have HBe7 := Lib.hid (grow_to (bel_alloc HBe6.out _) hb7); have y0 := WAt.c0 hx12; have y1 := WAt.c1 hx12; have t0 := WAt.c0 hx14; have t1 := WAt.c1 hx14; have u0 := WAt.c0 hxG; have u1 := WAt.c1 hxG; have r0 := Cells.fz hxG 0; have r1 := Cells.fz hxG 1; clear hb7 hx12 hxG hx14)))
                  go_meet
                  exact ⟨rfl, by rw [HMu.out]; exact WAt.up HCGc.out hr1, HBe7.out.setCell (Nat.le_of_lt hlt5) _⟩
                | false =>
                  by_cases c3 : v % 2 = 1
                  · have HMu : Hid (m = v + 1) := by
                      have h := HMK.out
                      unfold rndM at h
                      rw [← HV.out, ← HCU.out, ← HMD.out, if_pos (.inr ⟨HC2.out, .inr c3⟩)] at h
                      exact h
                    rw [c3] at hodd
                    clear c3
                    go_wp2_with (first | (go_at_call 67; go_loud (refine (km4 _).mono ?_; rintro x w6 ⟨rfl, hb6⟩; have hx12 := Cells.keep (Cells.alloc HC12.out _) hb6; have hxG := Cells.keep (Cells.alloc HCGe.out _) hb6; have HC12b := Lib.hid hx12; have HCGb := Lib.hid hxG; have HBe6 := Lib.hid (grow_to (bel_alloc HBe.out _) hb6); have x0 := WAt.c0 hx12; have x1 := WAt.c1 hx12; have v0 := WAt.c0 hxG; have v1 := WAt.c1 hxG; have hlt6 : wd.heap.size < w6.heap.size := Cells.lt hxG; have hlt12 : g12 < w6.heap.size := Cells.lt hx12; clear hb6 hx12 hxG)) | (go_at_call 105; go_loud (refine (kless _).mono ?_; rintro x w7 ⟨rfl, hb7⟩; have hx12 := Cells.keep (Cells.alloc HC12b.out _) hb7; have hxG := Cells.keep (Cells.alloc HCGb.out _) hb7; have hx14 := Cells.keep (Cells.new w6 111 (wc md)) hb7; have HCGc := Lib.hid hxG; have HBe7 := Lib.hid (grow_to (bel_alloc HBe6.out _) hb7); have y0 := WAt.c0 hx12; have y1 := WAt.c1 hx12; have t0 := WAt.c0 hx14; have t1 := WAt.c1 hx14; have u0 := WAt.c0 hxG; have u1 := WAt.c1 hxG; have r0 := Cells.fz hxG 0; have r1 := Cells.fz hxG 1; clear hb7 hx12 hxG hx14)))
                    go_meet
                    exact ⟨rfl, by rw [HMu.out]; exact WAt.up HCGc.out hr1, HBe7.out.setCell (Nat.le_of_lt hlt5) _⟩
                  · have HMu : Hid (m = v) := by
                      have h := HMK.out
                      unfold rndM at h
                      rw [← HV.out, ← HCU.out, ← HMD.out, if_neg (fun h => h.elim HC1.out fun h => h.2.elim (fun h => nomatch h) c3), Nat.add_zero] at h
                      exact h
                    rw [show v % 2 = 0 by omega] at hodd
                    clear c3
                    go_wp2_with (first | (go_at_call 67; go_loud (refine (km4 _).mono ?_; rintro x w6 ⟨rfl, hb6⟩; have hx12 := Cells.keep (Cells.alloc HC12.out _) hb6; have hxG := Cells.keep (Cells.alloc HCGe.out _) hb6; have HC12b := Lib.hid hx12; have HCGb := Lib.hid hxG; have HBe6 := Lib.hid (grow_to (bel_alloc HBe.out _) hb6); have x0 := WAt.c0 hx12; have x1 := WAt.c1 hx12; have v0 := WAt.c0 hxG; have v1 := WAt.c1 hxG; have hlt6 : wd.heap.size < w6.heap.size := Cells.lt hxG; have hlt12 : g12 < w6.heap.size := Cells.lt hx12; clear hb6 hx12 hxG)) | (go_at_call 105; go_loud (refine (kless _).mono ?_; rintro x w7 ⟨rfl, hb7⟩; have hx12 := Cells.keep (Cells.alloc HC12b.out _) hb7; have hxG := Cells.keep (Cells.alloc HCGb.out _) hb7; have hx14 := Cells.keep (Cells.new w6 111 (wc md)) hb7; have HCGc := Lib.hid hxG; have HBe7 := Lib.hid (grow_to (bel_alloc HBe6.out _) hb7); have y0 := WAt.c0 hx12; have y1 := WAt.c1 hx12; have t0 := WAt.c0 hx14; have t1 := WAt.c1 hx14; have u0 := WAt.c0 hxG; have u1 := WAt.c1 hxG; have r0 := Cells.fz hxG 0; have r1 := Cells.fz hxG 1; clear hb7 hx12 hxG hx14)))
                    go_meet
                    exact ⟨rfl, by rw [HMu.out]; exact HCGc.out, HBe7.out⟩
              · have heq2 : ∀ x, (binOp .eql 111 (.agg #[.int .u64 (((c : Nat) : Int) / 18446744073709551616), .int .u64 (((c : Nat) : Int) % 18446744073709551616)]) (.agg #[.int .u64 (((md : Nat) : Int) / 18446744073709551616), .int .u64 (((md : Nat) : Int) % 18446744073709551616)])).run Tryz.prog x = .ok (.bool false) x := fun x => by
                  have h := heq x
                  rw [decide_eq_false c2] at h
                  exact h
                clear heq
                have HMu : Hid (m = v) := by
                  have h := HMK.out
                  unfold rndM at h
                  rw [← HV.out, ← HCU.out, ← HMD.out, if_neg (fun h => h.elim c1 fun h => c2 h.1), Nat.add_zero] at h
                  exact h
                clear c1 c2
                go_wp2_with (first | (go_at_call 67; go_loud (refine (km4 _).mono ?_; rintro x w6 ⟨rfl, hb6⟩; have hx12 := Cells.keep (Cells.alloc HC12.out _) hb6; have hxG := Cells.keep (Cells.alloc HCGe.out _) hb6; have HC12b := Lib.hid hx12; have HCGb := Lib.hid hxG; have HBe6 := Lib.hid (grow_to (bel_alloc HBe.out _) hb6); have x0 := WAt.c0 hx12; have x1 := WAt.c1 hx12; have v0 := WAt.c0 hxG; have v1 := WAt.c1 hxG; have hlt6 : wd.heap.size < w6.heap.size := Cells.lt hxG; have hlt12 : g12 < w6.heap.size := Cells.lt hx12; clear hb6 hx12 hxG)) | (go_at_call 105; go_loud (refine (kless _).mono ?_; rintro x w7 ⟨rfl, hb7⟩; have hx12 := Cells.keep (Cells.alloc HC12b.out _) hb7; have hxG := Cells.keep (Cells.alloc HCGb.out _) hb7; have hx14 := Cells.keep (Cells.new w6 111 (wc md)) hb7; have HCGc := Lib.hid hxG; have HBe7 := Lib.hid (grow_to (bel_alloc HBe6.out _) hb7); have y0 := WAt.c0 hx12; have y1 := WAt.c1 hx12; have t0 := WAt.c0 hx14; have t1 := WAt.c1 hx14; have u0 := WAt.c0 hxG; have u1 := WAt.c1 hxG; have r0 := Cells.fz hxG 0; have r1 := Cells.fz hxG 1; clear hb7 hx12 hxG hx14)))
                go_meet
                exact ⟨rfl, by rw [HMu.out]; exact HCGc.out, HBe7.out⟩
      case rest =>
        obtain ⟨rfl, hG, hB⟩ := hcut
        have c1 := WAt.c1 hG
        rw [show (((m : Nat) : Int) % 18446744073709551616) = ((m : Nat) : Int) from by omega] at c1
        have HBf := Lib.hid hB
        clear hG hB HB H5 HM HLeft HRight
        have o1 : bits .or .u64 ((sgn s : Nat) : Int) 9218868437227405312 = ((sgn s + 9218868437227405312 : Nat) : Int) := or_sgn s (r := 9218868437227405312) (by decide)
        have b1 : IntKind.i64.wrap (Q + 1074) = Q + 1074 := by
          rw [IntKind.wrap_i64]
          omega
        by_cases hq : 971 < Q
        · have HV : Hid (rnd s w e rest = sgn s + 9218868437227405312) := by
            have h := HRR.out
            rw [if_neg hA, if_pos hq] at h
            have h2 := HR.out
            rw [h] at h2
            exact h2
          go_wp2
          go_ret
          exact ⟨by rw [HV.out]; rfl, HBf.out⟩
        · have b2 : IntKind.u64.wrap (Q + 1074) = Q + 1074 := by
            rw [IntKind.wrap_u64]
            omega
          have b3 : IntKind.u64.wrap ((Q + 1074) * 4503599627370496) = (Q + 1074) * 4503599627370496 := by
            rw [IntKind.wrap_u64]
            omega
          obtain ⟨bv, hbv⟩ : ∃ bv, bv = (Q + 1074).toNat * 4503599627370496 + m := ⟨_, rfl⟩
          have b4 : IntKind.u64.wrap ((Q + 1074) * 4503599627370496 + ((m : Nat) : Int)) = ((bv : Nat) : Int) := by
            rw [IntKind.wrap_u64]
            omega
          by_cases hbi : infB ≤ bv
          · have HV : Hid (rnd s w e rest = sgn s + 9218868437227405312) := by
              have h := HRR.out
              rw [if_neg hA, if_neg hq, ← hbv, if_pos hbi] at h
              have h2 := HR.out
              rw [h] at h2
              exact h2
            have hbi2 : (9218868437227405312 : Int) ≤ ((bv : Nat) : Int) := by
              unfold infB at hbi
              omega
            clear hbi hbv
            go_wp2
            go_ret
            exact ⟨by rw [HV.out]; rfl, HBf.out⟩
          · have HV : Hid (rnd s w e rest = sgn s + bv) := by
              have h := HRR.out
              rw [if_neg hA, if_neg hq, ← hbv, if_neg hbi] at h
              have h2 := HR.out
              rw [h] at h2
              exact h2
            have hbi2 : ¬ (9218868437227405312 : Int) ≤ ((bv : Nat) : Int) := by
              unfold infB at hbi
              omega
            have o2 := or_sgn s (r := bv) (by unfold infB at hbi; omega)
            clear hbi hbv o1
            go_wp2
            go_ret
            exact ⟨by rw [HV.out]; rfl, HBf.out⟩

end Go.Proofs.YtjloiclbknfomaaGreatDoor

namespace Go.Proofs.YtjloiclbknfomaaGreatDoor
open Go.RowKit

theorem wz_is : wc 0 = #[.int .u64 0, .int .u64 0] := rfl
theorem mul_wide {a b k : Nat} (ha : a < 18446744073709551616) (hb : b < 18446744073709551616) : a * (b % 2 ^ k) < 340282366920938463463374607431768211456 ∧ a * b < 340282366920938463463374607431768211456 := by
  have h1 : a * b < 340282366920938463463374607431768211456 := Nat.lt_of_le_of_lt (Nat.mul_le_mul (Nat.le_of_lt_succ (show a < 18446744073709551615 + 1 by omega)) (Nat.le_of_lt_succ (show b < 18446744073709551615 + 1 by omega))) (by decide)
  exact ⟨Nat.lt_of_le_of_lt (Nat.mul_le_mul_left _ (Nat.mod_le _ _)) h1, h1⟩
set_option maxHeartbeats 8000000 in
set_option maxRecDepth 100000 in
theorem times_any {a b : Nat} (ha : a < 18446744073709551616) (hb : b < 18446744073709551616) (W : World) :
    Calls Tryz.prog 71 #[.int .u64 ((a : Nat) : Int), .int .u64 ((b : Nat) : Int)] W fun e w' => e = .returned (wv (a * b)) ∧ Below W.heap.size W w' := by
  obtain ⟨p, hp⟩ : ∃ p, p = a * b := ⟨_, rfl⟩
  rw [← hp, wv_is]
  have HP := Lib.hid hp
  clear hp
  go_enter Tryz.func71, Tryz.ntmps71
  go_wp2
  go_loopw [6] (fun v wr => ∃ i : Nat, v = .int .i64 ((i : Nat) : Int) ∧ i ≤ 64 ∧ WAt wr W.heap.size 0 ∧ WAt wr (W.heap.size + 1) (a * (b % 2 ^ i)) ∧ Below W.heap.size W wr) (fun v _ => 65 - (intOf v).toNat)
  case atStart =>
    refine ⟨0, rfl, by omega, (Cells.new W _ _).alloc _, ?_, ((Below.refl _ _).alloc (Nat.le_refl _) _).alloc (by rw [World.size_alloc]; omega) _⟩
    rw [Nat.pow_zero, Nat.mod_one, Nat.mul_zero]
    exact Cells.newAt _ _ _ _ (by rw [World.size_alloc])
  case round =>
    obtain ⟨i, rfl, hi, hR, hO, hB⟩ := hrel
    have hsz := hB.size
    have o0 := WAt.c0 hO
    have o1 := WAt.c1 hO
    have hlt := Cells.lt hO
    have HB := Lib.hid hB
    have HR := Lib.hid hR
    have HO := Lib.hid hO
    have HBIG := Lib.hid (@mul_wide a b i ha hb)
    by_cases c : i < 64
    · have hw1 : IntKind.i64.wrap (((i : Nat) : Int) + 1) = ((i : Nat) : Int) + 1 := by
        rw [IntKind.wrap_i64]
        omega
      have hbit : bits .and .u64 (((b : Nat) : Int) / 2 ^ i) 1 = ((b / 2 ^ i % 2 : Nat) : Int) := by
        rw [shr_fact]
        have h : bits .and .u64 ((b / 2 ^ i : Nat) : Int) ((1 : Nat) : Int) = ((b / 2 ^ i &&& 1 : Nat) : Int) := u64_and_nat (b / 2 ^ i) 1 (Nat.lt_of_le_of_lt (Nat.div_le_self _ _) hb) (by decide)
        rw [Nat.and_one_is_mod] at h
        exact h
      have hstep := times_step (a := a) (b := b) (i := i)
      clear hB hR hO
      by_cases d : b / 2 ^ i % 2 = 1
      · rw [d] at hbit
        rw [if_pos d] at hstep
        have hlow : b % 2 ^ i < 2 ^ i := Nat.mod_lt _ (Nat.pow_pos (by decide))
        have hz : a * 2 ^ i < 340282366920938463463374607431768211456 := Nat.lt_of_le_of_lt (Nat.mul_le_mul (show a ≤ 18446744073709551615 by omega) (Nat.pow_le_pow_right (n := 2) (by decide) (show i ≤ 63 by omega))) (by decide)
        have hy := (@mul_wide a b (i + 1) ha hb).1
        have kl := fun x => wleft_any (n := a) (k := i) (by omega) hz x
        have kp := fun x => wplus_any (n := a * (b % 2 ^ i)) (m := a * 2 ^ i) (by rw [← hstep]; exact hy) x
        rw [← hstep] at kp
        obtain ⟨x, hxx⟩ : ∃ x, x = a * (b % 2 ^ i) := ⟨_, rfl⟩
        obtain ⟨y, hyy⟩ : ∃ y, y = a * (b % 2 ^ (i + 1)) := ⟨_, rfl⟩
        obtain ⟨z, hzz⟩ : ∃ z, z = a * 2 ^ i := ⟨_, rfl⟩
        rw [← hxx] at o0 o1 kp HO
        rw [← hyy] at kp
        rw [← hzz] at kp kl
        rw [wv_is, show (((a : Nat) : Int) / 18446744073709551616) = 0 from by omega, show (((a : Nat) : Int) % 18446744073709551616) = ((a : Nat) : Int) from by omega] at kl
        have kl2 : ∀ x : World, Calls Tryz.prog 67 #[.agg #[.int .u64 0, .int .u64 ((a : Nat) : Int)], .int .i64 ((i : Nat) : Int)] x fun r x' => r = .returned (.agg #[.int .u64 (((z : Nat) : Int) / 18446744073709551616), .int .u64 (((z : Nat) : Int) % 18446744073709551616)]) ∧ Below x.heap.size x x' := kl
        have kp2 : ∀ X : World, Calls Tryz.prog 69 #[.agg #[.int .u64 (((x : Nat) : Int) / 18446744073709551616), .int .u64 (((x : Nat) : Int) % 18446744073709551616)], .agg #[.int .u64 (((z : Nat) : Int) / 18446744073709551616), .int .u64 (((z : Nat) : Int) % 18446744073709551616)]] X fun r X' => r = .returned (.agg #[.int .u64 (((y : Nat) : Int) / 18446744073709551616), .int .u64 (((y : Nat) : Int) % 18446744073709551616)]) ∧ Below X.heap.size X X' := kp
        have HY := Lib.hid hyy
        clear hlow hz hy kl kp hxx hyy hzz hstep d
        have HKP := Lib.hid fun (wx wz : World) (hw : Below wx.heap.size wx wz) (h : wx.cell? ⟨W.heap.size + 1, 0, none⟩ = some (.int .u64 (((x : Nat) : Int) / 18446744073709551616)) ∧ wx.cell? ⟨W.heap.size + 1, 1, none⟩ = some (.int .u64 (((x : Nat) : Int) % 18446744073709551616)) ∧ wx.cell? ⟨wr.heap.size, 0, none⟩ = some (.int .u64 0) ∧ wx.cell? ⟨wr.heap.size, 1, none⟩ = some (.int .u64 ((a : Nat) : Int))) => (show wz.cell? ⟨W.heap.size + 1, 0, none⟩ = some (.int .u64 (((x : Nat) : Int) / 18446744073709551616)) ∧ wz.cell? ⟨W.heap.size + 1, 1, none⟩ = some (.int .u64 (((x : Nat) : Int) % 18446744073709551616)) ∧ wz.cell? ⟨wr.heap.size, 0, none⟩ = some (.int .u64 0) ∧ wz.cell? ⟨wr.heap.size, 1, none⟩ = some (.int .u64 ((a : Nat) : Int)) from
          ⟨(hw.cell (World.block_lt_of_cell? _ _ h.1)).trans h.1, (hw.cell (World.block_lt_of_cell? _ _ h.2.1)).trans h.2.1, (hw.cell (World.block_lt_of_cell? _ _ h.2.2.1)).trans h.2.2.1, (hw.cell (World.block_lt_of_cell? _ _ h.2.2.2)).trans h.2.2.2⟩)
        go_upto_region 7 with fail
        have HOy := Lib.hid (Cells.alloc HO.out (.cells #[.int .u64 0, .int .u64 ((a : Nat) : Int)] 111))
        have HRy := Lib.hid (Cells.alloc HR.out (.cells #[.int .u64 0, .int .u64 ((a : Nat) : Int)] 111))
        have HBy := Lib.hid (bel_alloc HB.out (.cells #[.int .u64 0, .int .u64 ((a : Nat) : Int)] 111))
        have HVy := Lib.hid (Cells.new wr 111 #[.int .u64 0, .int .u64 ((a : Nat) : Int)])
        obtain ⟨wy, hwy⟩ : ∃ wy, wy = wr.alloc (.cells #[.int .u64 0, .int .u64 ((a : Nat) : Int)] 111) := ⟨_, rfl⟩
        rw [← hwy] at HOy HRy HBy HVy ⊢
        clear hwy o0 o1
        have e0 := WAt.c0 HOy.out
        have e1 := WAt.c1 HOy.out
        have g0 := Cells.cell HVy.out (j := 0) rfl
        have g1 := Cells.cell HVy.out (j := 1) rfl
        go_region_with ((first | (go_at_call 67; refine (kl2 _).mono ?_; rintro r w4 ⟨rfl, hb4⟩; have q4 := Cells.keep (Cells.drew HOy.out) hb4; have e0 := WAt.c0 q4; have e1 := WAt.c1 q4; have z0 := Cells.fz q4 0; have z1 := Cells.fz q4 1; have Q4 := Lib.hid q4; clear q4) | (go_at_call 69; refine (kp2 _).mono ?_; rintro r w5 ⟨rfl, hb5⟩; have q5 := Cells.keep Q4.out hb5; have z0 := Cells.fz q5 0; have z1 := Cells.fz q5 1; have y0 := WAt.c0 q5; have y1 := WAt.c1 q5; have Q5 := Lib.hid q5; clear q5)))
        all_goals (
          go_wp2
          go_roundw
          case rel => exact ⟨i + 1, by first | rfl | simp, by omega, Cells.far (Cells.far (Cells.keep (Cells.keep (Cells.drew HRy.out) hb4) hb5) (by simp) _) (by simp) _, by rw [← HY.out]; exact WAt.store Q5.out, bel_store (grow_to (grow_to (bel_drew HBy.out) hb4) hb5) (Nat.le_succ _) _ _⟩
          case measure => simp [intOf]; omega)
      · rw [show b / 2 ^ i % 2 = 0 by omega] at hbit
        rw [if_neg d] at hstep
        have HST := Lib.hid hstep
        clear hstep d
        go_wp2
        go_roundw
        case rel => exact ⟨i + 1, by first | rfl | simp, by omega, HR.out, by rw [HST.out]; exact HO.out, HB.out⟩
        case measure => simp [intOf]; omega
    · have h64 : b % 2 ^ i = b := Nat.mod_eq_of_lt (Nat.lt_of_lt_of_le hb (Nat.le_trans (by decide) (Nat.pow_le_pow_right (by decide) (show 64 ≤ i by omega))))
      rw [h64] at o0 o1
      have r0 := WAt.c0 hR
      have r1 := WAt.c1 hR
      have f0 := Cells.fz hR 0
      have f1 := Cells.fz hR 1
      rw [← HP.out] at o0 o1
      clear hB hR hO
      go_wp2
      have hZ := WAt.store (m := p) HR.out
      have hZB := bel_store HB.out (Nat.le_refl _) (.int .u64 (((p : Nat) : Int) / 18446744073709551616)) (.int .u64 (((p : Nat) : Int) % 18446744073709551616))
      obtain ⟨wz, hwz⟩ : ∃ wz, wz = (wr.setCell ⟨W.heap.size, 0, none⟩ (.int .u64 (((p : Nat) : Int) / 18446744073709551616))).setCell ⟨W.heap.size, 1, none⟩ (.int .u64 (((p : Nat) : Int) % 18446744073709551616)) := ⟨_, rfl⟩
      rw [← hwz] at hZ hZB ⊢
      have z0 := WAt.c0 hZ
      have z1 := WAt.c1 hZ
      clear hwz hZ o0 o1 r0 r1 f0 f1
      refine bodyPost_ret (v := .agg #[.int .u64 (((p : Nat) : Int) / 18446744073709551616), .int .u64 (((p : Nat) : Int) % 18446744073709551616)]) (by simp [results, Tryz.results71, go_sem, z0, z1]) rfl ?_
      exact ⟨rfl, hZB⟩

end Go.Proofs.YtjloiclbknfomaaGreatDoor

namespace Go.Proofs.YtjloiclbknfomaaGreatDoor
open Go.RowKit

theorem WAt.odd {w : World} {g n : Nat} (h : WAt w g n) (hn : n % 2 = 0) : WAt (w.setCell ⟨g, 1, none⟩ (.int .u64 (((n + 1 : Nat) : Int) % 18446744073709551616))) g (n + 1) := by
  have h2 := Cells.set h 1 (.int .u64 (((n + 1 : Nat) : Int) % 18446744073709551616))
  have e : (wc n).setIfInBounds 1 (.int .u64 (((n + 1 : Nat) : Int) % 18446744073709551616)) = wc (n + 1) := by
    unfold wc
    rw [show (((n + 1 : Nat) : Int) / 18446744073709551616) = (((n : Nat) : Int) / 18446744073709551616) from by omega]
    rfl
  rw [e] at h2
  exact h2
theorem and_one (x : Nat) : bits .and .u64 (((x : Nat) : Int) % 18446744073709551616) 1 = ((x % 2 : Nat) : Int) := by
  have h : bits .and .u64 ((x % 18446744073709551616 : Nat) : Int) ((1 : Nat) : Int) = ((x % 18446744073709551616 &&& 1 : Nat) : Int) := u64_and_nat (x % 18446744073709551616) 1 (by omega) (by decide)
  rw [Nat.and_one_is_mod, show x % 18446744073709551616 % 2 = x % 2 from by omega] at h
  rw [show (((x : Nat) : Int) % 18446744073709551616) = ((x % 18446744073709551616 : Nat) : Int) from by omega]
  exact h
theorem or_bit {x b : Nat} (hx : x % 2 = 0) (hl : x < 18446744073709551616) (hb : b < 2) : bits .or .u64 ((x : Nat) : Int) ((b : Nat) : Int) = ((x + b : Nat) : Int) := by
  have h := u64_or_nat x b hl (by omega)
  have e : x ||| b = x + b := nat_join1 x b hx hb
  rw [e] at h
  exact h
set_option maxHeartbeats 8000000 in
set_option maxRecDepth 100000 in
theorem by_any {w n : Nat} (hw : w < 340282366920938463463374607431768211456) (hn0 : 0 < n) (hn : n < 9007199254740992) (W : World) :
    Calls Tryz.prog 72 #[wv w, .int .u64 ((n : Nat) : Int)] W fun e W' => e = .returned (.tuple #[wv (w / n), .bool (decide (0 < w % n))]) ∧ Below W.heap.size W W' := by
  obtain ⟨p, hp⟩ : ∃ p, p = w / n := ⟨_, rfl⟩
  obtain ⟨m, hm⟩ : ∃ m, m = w % n := ⟨_, rfl⟩
  rw [← hp, ← hm, wv_is, wv_is]
  have HP := Lib.hid hp
  have HM := Lib.hid hm
  clear hp hm
  go_enter Tryz.func72, Tryz.ntmps72
  go_wp2
  go_loopw [7, 8] (fun vr vi wr => ∃ (i : Int) (q r : Nat), vi = .int .i64 i ∧ vr = .int .u64 ((r : Nat) : Int) ∧ -1 ≤ i ∧ i ≤ 127 ∧ WAt wr W.heap.size w ∧ WAt wr (W.heap.size + 1) 0 ∧ WAt wr (W.heap.size + 2) q ∧ Below W.heap.size W wr ∧ Hid (q = w / 2 ^ (i + 1).toNat / n ∧ r = w / 2 ^ (i + 1).toNat % n)) (fun _ v _ => (intOf v + 1).toNat)
  case atStart =>
    have h0 : w / 2 ^ (127 + 1 : Int).toNat = 0 := Nat.div_eq_of_lt (Nat.lt_of_lt_of_le hw (by decide))
    refine ⟨127, 0, 0, rfl, rfl, by omega, by omega, ((Cells.new W _ _).alloc _).alloc _, (Cells.newAt _ _ _ _ (by rw [World.size_alloc])).alloc _, Cells.newAt _ _ _ _ (by rw [World.size_alloc, World.size_alloc]), bel_alloc (bel_alloc (bel_alloc (Below.refl _ _) _) _) _, ?_⟩
    show 0 = w / 2 ^ (127 + 1 : Int).toNat / n ∧ 0 = w / 2 ^ (127 + 1 : Int).toNat % n
    rw [h0, Nat.zero_div, Nat.zero_mod]
    exact ⟨rfl, rfl⟩
  case round =>
    obtain ⟨i, q, r, rfl, rfl, hi0, hi1, hC, hR, hQ, hB, HH⟩ := hrel
    have hsz := hB.size
    by_cases c : 0 ≤ i
    · obtain ⟨k, rfl⟩ : ∃ k : Nat, i = ((k : Nat) : Int) := ⟨i.toNat, by omega⟩
      have hq := HH.out.1
      have hr := HH.out.2
      rw [show (((k : Nat) : Int) + 1).toNat = k + 1 from by omega] at hq hr
      have hnb := next_bit w k
      have hxw : w / 2 ^ k < 340282366920938463463374607431768211456 := Nat.lt_of_le_of_lt (Nat.div_le_self _ _) hw
      have hqb := quo_bit (x := w / 2 ^ (k + 1)) (n := n) (bit := w / 2 ^ k % 2) (by omega) hn0
      have hrn : r < n := by
        rw [hr]
        exact Nat.mod_lt _ hn0
      rw [← hnb, ← hq, ← hr] at hqb
      have kr := fun X => wright_any (n := w) (k := k) (by omega) hw X
      have HEnd : Hid (∀ q' r', q' = w / 2 ^ k / n → r' = w / 2 ^ k % n → q' = w / 2 ^ (((k : Nat) : Int) - 1 + 1).toNat / n ∧ r' = w / 2 ^ (((k : Nat) : Int) - 1 + 1).toNat % n) := fun q' r' h1 h2 => by
        rw [show (((k : Nat) : Int) - 1 + 1).toNat = k from by omega]
        exact ⟨h1, h2⟩
      obtain ⟨x, hx⟩ : ∃ x, x = w / 2 ^ k := ⟨_, rfl⟩
      rw [← hx] at hqb kr hxw HEnd
      have kr : ∀ X : World, Calls Tryz.prog 104 #[.agg #[.int .u64 (((w : Nat) : Int) / 18446744073709551616), .int .u64 (((w : Nat) : Int) % 18446744073709551616)], .int .i64 ((k : Nat) : Int)] X fun e X' => e = .returned (.agg #[.int .u64 (((x : Nat) : Int) / 18446744073709551616), .int .u64 (((x : Nat) : Int) % 18446744073709551616)]) ∧ Below X.heap.size X X' := kr
      obtain ⟨bit, hbit⟩ : ∃ b, b = x % 2 := ⟨_, rfl⟩
      have hb2 : bit < 2 := by omega
      have ha := and_one x
      rw [← hbit] at hqb ha
      have hql : q * 2 ^ 1 < 340282366920938463463374607431768211456 := by
        rw [Nat.pow_one]
        have h2 : q ≤ w / 2 ^ (k + 1) := by
          rw [hq]
          exact Nat.div_le_self _ _
        omega
      have kl := fun X => wleft_any (n := q) (k := 1) (by omega) hql X
      obtain ⟨y, hy⟩ : ∃ y, y = q * 2 ^ 1 := ⟨_, rfl⟩
      rw [← hy] at kl hql
      rw [Nat.pow_one] at hy
      have kl : ∀ X : World, Calls Tryz.prog 67 #[.agg #[.int .u64 (((q : Nat) : Int) / 18446744073709551616), .int .u64 (((q : Nat) : Int) % 18446744073709551616)], .int .i64 1] X fun e X' => e = .returned (.agg #[.int .u64 (((y : Nat) : Int) / 18446744073709551616), .int .u64 (((y : Nat) : Int) % 18446744073709551616)]) ∧ Below X.heap.size X X' := kl
      have s1 : IntKind.u64.wrap (((r : Nat) : Int) * 2) = ((2 * r : Nat) : Int) := by
        rw [IntKind.wrap_u64]
        omega
      have s2 := or_bit (x := 2 * r) (b := bit) (by omega) (by omega) hb2
      have s3 : IntKind.i64.wrap (((k : Nat) : Int) - 1) = ((k : Nat) : Int) - 1 := by
        rw [IntKind.wrap_i64]
        omega
      obtain ⟨u, hu⟩ : ∃ u, u = 2 * r + bit := ⟨_, rfl⟩
      rw [← hu] at s2 hqb
      obtain ⟨t, ht⟩ : ∃ t, t = 2 * r := ⟨_, rfl⟩
      rw [← ht] at s1 s2
      have a0 := WAt.c0 hC
      have a1 := WAt.c1 hC
      have HC := Lib.hid hC
      have HR := Lib.hid hR
      have HQ := Lib.hid hQ
      have HE := Lib.hid hx
      by_cases d : n ≤ u
      · rw [if_pos d] at hqb
        have HV := Lib.hid (HEnd.out (y + 1) (u - n) (by omega) (by omega))
        have s4 : IntKind.u64.wrap (((u : Nat) : Int) - ((n : Nat) : Int)) = ((u - n : Nat) : Int) := by
          rw [IntKind.wrap_u64]
          omega
        have hy2 : y % 2 = 0 := by omega
        have s5 : bits .or .u64 (((y : Nat) : Int) % 18446744073709551616) 1 = (((y + 1 : Nat) : Int) % 18446744073709551616) := by
          have h := or_bit (x := y % 18446744073709551616) (b := 1) (by omega) (by omega) (by decide)
          rw [show (((y : Nat) : Int) % 18446744073709551616) = ((y % 18446744073709551616 : Nat) : Int) from by omega, show (((y + 1 : Nat) : Int) % 18446744073709551616) = ((y % 18446744073709551616 + 1 : Nat) : Int) from by omega]
          exact h
        have d' : ((n : Nat) : Int) ≤ ((u : Nat) : Int) := by omega
        obtain ⟨v, hv⟩ : ∃ v, v = u - n := ⟨_, rfl⟩
        rw [← hv] at s4 HV
        have HY2 := Lib.hid hy2
        obtain ⟨L, hL⟩ : ∃ L : Int, L = (((y + 1 : Nat) : Int) % 18446744073709551616) := ⟨_, rfl⟩
        rw [← hL] at s5
        have HL := Lib.hid hL
        clear hC hR hQ hq hr hnb hxw hqb hbit hb2 hql hu ht hy hx d hv hy2 hL hi0
        go_wp2_with (first | (go_at_call 104; go_loud (refine (kr _).mono ?_; rintro x2 w2 ⟨rfl, hb2⟩; have hC2 := Cells.keep HC.out hb2; have hR2 := Cells.keep HR.out hb2; have hQ2 := Cells.keep HQ.out hb2; have b0 := WAt.c0 hQ2; have b1 := WAt.c1 hQ2; have b2 := Cells.fz hQ2 0; have b3 := Cells.fz hQ2 1; have hlt2 := Cells.lt hQ2; have HC2 := Lib.hid hC2; have HR2 := Lib.hid hR2; have HQ2 := Lib.hid hQ2; have HB2 := Lib.hid (grow_to hB hb2); clear hC2 hR2 hQ2 hb2 hB)) | (go_at_call 67; go_loud (refine (kl _).mono ?_; rintro x3 w3 ⟨rfl, hb3⟩; have hC3 := Cells.keep (Cells.alloc HC2.out _) hb3; have hR3 := Cells.keep (Cells.alloc HR2.out _) hb3; have hQ3 := Cells.keep (Cells.alloc HQ2.out _) hb3; have d2 := Cells.fz hQ3 0; have d3 := Cells.fz hQ3 1; have d0 := WAt.c0 hQ3; have d1 := WAt.c1 hQ3; have HC3 := Lib.hid hC3; have HR3 := Lib.hid hR3; have HQ3 := Lib.hid hQ3; have HB3 := Lib.hid (grow_to (bel_alloc HB2.out _) hb3); clear hC3 hR3 hQ3 hb3)))
        refine ⟨⟨((k : Nat) : Int) - 1, y + 1, v, rfl, rfl, by omega, by omega, Cells.far (Cells.far (Cells.far HC3.out (by show _ ≠ W.heap.size + 1 + 1; omega) _) (by show _ ≠ W.heap.size + 1 + 1; omega) _) (by show _ ≠ W.heap.size + 1 + 1; omega) _, Cells.far (Cells.far (Cells.far HR3.out (by show _ ≠ W.heap.size + 1 + 1; omega) _) (by show _ ≠ W.heap.size + 1 + 1; omega) _) (by show _ ≠ W.heap.size + 1 + 1; omega) _, ?_, (bel_store HB3.out (by omega) _ _).setCell (by show W.heap.size ≤ W.heap.size + 1 + 1; omega) _, HV⟩, by simp [intOf]⟩
        rw [HL.out]
        exact WAt.odd (WAt.store HQ3.out) HY2.out
      · rw [if_neg d] at hqb
        have HV := Lib.hid (HEnd.out y u (by omega) (by omega))
        have d' : ¬ ((n : Nat) : Int) ≤ ((u : Nat) : Int) := by omega
        clear hC hR hQ hq hr hnb hxw hqb hbit hb2 hql hu ht hy hx d hi0
        go_wp2_with (first | (go_at_call 104; go_loud (refine (kr _).mono ?_; rintro x2 w2 ⟨rfl, hb2⟩; have hC2 := Cells.keep HC.out hb2; have hR2 := Cells.keep HR.out hb2; have hQ2 := Cells.keep HQ.out hb2; have b0 := WAt.c0 hQ2; have b1 := WAt.c1 hQ2; have b2 := Cells.fz hQ2 0; have b3 := Cells.fz hQ2 1; have hlt2 := Cells.lt hQ2; have HC2 := Lib.hid hC2; have HR2 := Lib.hid hR2; have HQ2 := Lib.hid hQ2; have HB2 := Lib.hid (grow_to hB hb2); clear hC2 hR2 hQ2 hb2 hB)) | (go_at_call 67; go_loud (refine (kl _).mono ?_; rintro x3 w3 ⟨rfl, hb3⟩; have hC3 := Cells.keep (Cells.alloc HC2.out _) hb3; have hR3 := Cells.keep (Cells.alloc HR2.out _) hb3; have hQ3 := Cells.keep (Cells.alloc HQ2.out _) hb3; have d2 := Cells.fz hQ3 0; have d3 := Cells.fz hQ3 1; have d0 := WAt.c0 hQ3; have d1 := WAt.c1 hQ3; have HC3 := Lib.hid hC3; have HR3 := Lib.hid hR3; have HQ3 := Lib.hid hQ3; have HB3 := Lib.hid (grow_to (bel_alloc HB2.out _) hb3); clear hC3 hR3 hQ3 hb3)))
        exact ⟨⟨((k : Nat) : Int) - 1, y, u, rfl, rfl, by omega, by omega, Cells.far (Cells.far HC3.out (by show _ ≠ W.heap.size + 1 + 1; omega) _) (by show _ ≠ W.heap.size + 1 + 1; omega) _, Cells.far (Cells.far HR3.out (by show _ ≠ W.heap.size + 1 + 1; omega) _) (by show _ ≠ W.heap.size + 1 + 1; omega) _, WAt.store HQ3.out, bel_store HB3.out (by omega) _ _, HV⟩, by simp [intOf]⟩
    · have hi : i = -1 := by omega
      subst hi
      have hq := HH.out.1
      have hr := HH.out.2
      rw [show (-1 + 1 : Int).toNat = 0 from rfl, Nat.pow_zero, Nat.div_one] at hq hr
      rw [← HP.out] at hq
      rw [← HM.out] at hr
      subst hq hr
      have o0 := WAt.c0 hQ
      have o1 := WAt.c1 hQ
      have r0 := WAt.c0 hR
      have r1 := WAt.c1 hR
      have f0 := Cells.fz hR 0
      have f1 := Cells.fz hR 1
      have HR := Lib.hid hR
      have HB := Lib.hid hB
      clear hB hR hQ hC
      go_wp2
      have hZ := WAt.store (m := q) HR.out
      have hZB := bel_store HB.out (Nat.le_succ _) (.int .u64 (((q : Nat) : Int) / 18446744073709551616)) (.int .u64 (((q : Nat) : Int) % 18446744073709551616))
      obtain ⟨wz, hwz⟩ : ∃ wz, wz = (wr.setCell ⟨W.heap.size + 1, 0, none⟩ (.int .u64 (((q : Nat) : Int) / 18446744073709551616))).setCell ⟨W.heap.size + 1, 1, none⟩ (.int .u64 (((q : Nat) : Int) % 18446744073709551616)) := ⟨_, rfl⟩
      rw [← hwz] at hZ hZB ⊢
      have z0 := WAt.c0 hZ
      have z1 := WAt.c1 hZ
      clear hwz hZ o0 o1 r0 r1 f0 f1
      refine bodyPost_ret (v := .tuple #[.agg #[.int .u64 (((q : Nat) : Int) / 18446744073709551616), .int .u64 (((q : Nat) : Int) % 18446744073709551616)], .bool (decide (0 < r))]) (by simp [results, Tryz.results72, go_sem, z0, z1]) rfl ?_
      exact ⟨rfl, hZB⟩

end Go.Proofs.YtjloiclbknfomaaGreatDoor
