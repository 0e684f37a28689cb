/- The document's whole numbers of 128 bits: what its methods answer (contracts). -/
import Derived.Test.YtjlnbfpjlladoaaGreatDoorNb
import Derived.Test.YtjlnbfpjlladoaaGreatDoorIy
import Derived.BigQuiet
import Derived.Deep.QuietTactic
import Derived.Deep.RegionHeld3
set_option maxRecDepth 100000
namespace Go.Proofs.YtjlnbfpjlladoaaGreatDoor
open Go.RowKit

/-- a whole number of 128 bits as the code has it -/
def wv (n : Nat) : Value := .agg #[.int .u64 (((n) / 18446744073709551616 : Nat) : Int), .int .u64 (((n) % 18446744073709551616 : Nat) : Int)]

theorem bel_alloc {w x : World} (h : Below w.heap.size w x) (o : Obj) : Below w.heap.size w (x.alloc o) := h.alloc h.size o

theorem shl_fact (a k : Nat) : IntKind.u64.wrap (((a : Nat) : Int) * 2 ^ k) = ((a * 2 ^ k % 18446744073709551616 : Nat) : Int) := by
  rw [IntKind.wrap_u64]
  have h : ((a : Nat) : Int) * 2 ^ k = ((a * 2 ^ k : Nat) : Int) := by
    rw [Int.natCast_mul, Int.natCast_pow]
    rfl
  rw [h]
  omega
theorem shr_fact (a k : Nat) : ((a : Nat) : Int) / 2 ^ k = ((a / 2 ^ k : Nat) : Int) := by
  have h : (2 : Int) ^ k = ((2 ^ k : Nat) : Int) := by
    rw [Int.natCast_pow]
    rfl
  rw [h]
  exact (Int.natCast_ediv _ _).symm

set_option maxHeartbeats 1000000 in
theorem wless_any {n m : Nat} (hn : n < 340282366920938463463374607431768211456) (hm : m < 340282366920938463463374607431768211456) (w : World) :
    Calls Tryz.prog 74 #[wv n, wv m] w fun e w' => e = .returned (.bool (decide (n < m))) ∧ Below w.heap.size w w' := by
  unfold wv
  have HF : Hid (decide (n < m) = (decide ((((n) / 18446744073709551616 : Nat) : Int) < (((m) / 18446744073709551616 : Nat) : Int)) || (decide ((((n) / 18446744073709551616 : Nat) : Int) = (((m) / 18446744073709551616 : Nat) : Int)) && decide ((((n) % 18446744073709551616 : Nat) : Int) < (((m) % 18446744073709551616 : Nat) : Int))))) := by
    rw [← Bool.decide_and, ← Bool.decide_or]
    exact decide_eq_decide.2 (by omega)
  clear hn hm
  obtain ⟨a, hva⟩ : ∃ z : Int, z = (((n) / 18446744073709551616 : Nat) : Int) := ⟨_, rfl⟩
  rw [← hva] at HF ⊢
  clear hva
  obtain ⟨b, hvb⟩ : ∃ z : Int, z = (((n) % 18446744073709551616 : Nat) : Int) := ⟨_, rfl⟩
  rw [← hvb] at HF ⊢
  clear hvb
  obtain ⟨c, hvc⟩ : ∃ z : Int, z = (((m) / 18446744073709551616 : Nat) : Int) := ⟨_, rfl⟩
  rw [← hvc] at HF ⊢
  clear hvc
  obtain ⟨d, hvd⟩ : ∃ z : Int, z = (((m) % 18446744073709551616 : Nat) : Int) := ⟨_, rfl⟩
  rw [← hvd] at HF ⊢
  clear hvd
  by_cases c1 : a < c
  · go_enter Tryz.func74, Tryz.ntmps74
    go_wp2
    go_ret
    exact ⟨by rw [HF.out]; simp [c1], bel_alloc (bel_alloc (Below.refl _ _) _) _⟩
  · by_cases c2 : a = c
    · go_enter Tryz.func74, Tryz.ntmps74
      go_wp2
      go_ret
      exact ⟨by rw [HF.out]; simp [c2], bel_alloc (bel_alloc (Below.refl _ _) _) _⟩
    · go_enter Tryz.func74, Tryz.ntmps74
      go_wp2
      go_ret
      exact ⟨by rw [HF.out]; simp [c1, c2], bel_alloc (bel_alloc (Below.refl _ _) _) _⟩

set_option maxHeartbeats 1000000 in
theorem wplus_any {n m : Nat} (h : n + m < 340282366920938463463374607431768211456) (w : World) :
    Calls Tryz.prog 45 #[wv n, wv m] w fun e w' => e = .returned (wv (n + m)) ∧ Below w.heap.size w w' := by
  obtain ⟨p1, p2, p3⟩ := plus_words h
  unfold wv
  have hl : IntKind.u64.wrap ((((n) % 18446744073709551616 : Nat) : Int) + (((m) % 18446744073709551616 : Nat) : Int)) = (((n + m) % 18446744073709551616 : Nat) : Int) := by
    rw [IntKind.wrap_u64]
    omega
  by_cases c1 : (n + m) % 18446744073709551616 < n % 18446744073709551616
  · have hh : IntKind.u64.wrap (IntKind.u64.wrap ((((n) / 18446744073709551616 : Nat) : Int) + (((m) / 18446744073709551616 : Nat) : Int)) + 1) = (((n + m) / 18446744073709551616 : Nat) : Int) := by
      rw [IntKind.wrap_u64, IntKind.wrap_u64]
      omega
    have c2 : (((n + m) % 18446744073709551616 : Nat) : Int) < (((n) % 18446744073709551616 : Nat) : Int) := by omega
    clear p1 p2 p3 c1 h
    obtain ⟨x, hvx⟩ : ∃ z : Int, z = (((n + m) % 18446744073709551616 : Nat) : Int) := ⟨_, rfl⟩
    rw [← hvx] at hl c2 ⊢
    clear hvx
    obtain ⟨y, hvy⟩ : ∃ z : Int, z = (((n + m) / 18446744073709551616 : Nat) : Int) := ⟨_, rfl⟩
    rw [← hvy] at hh ⊢
    clear hvy
    obtain ⟨a, hva⟩ : ∃ z : Int, z = (((n) / 18446744073709551616 : Nat) : Int) := ⟨_, rfl⟩
    rw [← hva] at hh ⊢
    clear hva
    obtain ⟨b, hvb⟩ : ∃ z : Int, z = (((n) % 18446744073709551616 : Nat) : Int) := ⟨_, rfl⟩
    rw [← hvb] at hl c2 ⊢
    clear hvb
    obtain ⟨c, hvc⟩ : ∃ z : Int, z = (((m) / 18446744073709551616 : Nat) : Int) := ⟨_, rfl⟩
    rw [← hvc] at hh ⊢
    clear hvc
    obtain ⟨d, hvd⟩ : ∃ z : Int, z = (((m) % 18446744073709551616 : Nat) : Int) := ⟨_, rfl⟩
    rw [← hvd] at hl ⊢
    clear hvd
    go_enter Tryz.func45, Tryz.ntmps45
    go_wp2
    refine bodyPost_ret (v := .agg #[.int .u64 y, .int .u64 x]) (by simp [results, Tryz.results45, go_sem]) rfl ?_
    exact ⟨rfl, bel_alloc (bel_alloc (bel_alloc (Below.refl _ _) _) _) _⟩
  · have hh : IntKind.u64.wrap ((((n) / 18446744073709551616 : Nat) : Int) + (((m) / 18446744073709551616 : Nat) : Int)) = (((n + m) / 18446744073709551616 : Nat) : Int) := by
      rw [IntKind.wrap_u64]
      omega
    have c2 : ¬ (((n + m) % 18446744073709551616 : Nat) : Int) < (((n) % 18446744073709551616 : Nat) : Int) := by omega
    clear p1 p2 p3 c1 h
    obtain ⟨x, hvx⟩ : ∃ z : Int, z = (((n + m) % 18446744073709551616 : Nat) : Int) := ⟨_, rfl⟩
    rw [← hvx] at hl c2 ⊢
    clear hvx
    obtain ⟨y, hvy⟩ : ∃ z : Int, z = (((n + m) / 18446744073709551616 : Nat) : Int) := ⟨_, rfl⟩
    rw [← hvy] at hh ⊢
    clear hvy
    obtain ⟨a, hva⟩ : ∃ z : Int, z = (((n) / 18446744073709551616 : Nat) : Int) := ⟨_, rfl⟩
    rw [← hva] at hh ⊢
    clear hva
    obtain ⟨b, hvb⟩ : ∃ z : Int, z = (((n) % 18446744073709551616 : Nat) : Int) := ⟨_, rfl⟩
    rw [← hvb] at hl c2 ⊢
    clear hvb
    obtain ⟨c, hvc⟩ : ∃ z : Int, z = (((m) / 18446744073709551616 : Nat) : Int) := ⟨_, rfl⟩
    rw [← hvc] at hh ⊢
    clear hvc
    obtain ⟨d, hvd⟩ : ∃ z : Int, z = (((m) % 18446744073709551616 : Nat) : Int) := ⟨_, rfl⟩
    rw [← hvd] at hl ⊢
    clear hvd
    go_enter Tryz.func45, Tryz.ntmps45
    go_wp2
    refine bodyPost_ret (v := .agg #[.int .u64 y, .int .u64 x]) (by simp [results, Tryz.results45, go_sem]) rfl ?_
    exact ⟨rfl, bel_alloc (bel_alloc (bel_alloc (Below.refl _ _) _) _) _⟩

set_option maxHeartbeats 1000000 in
theorem wminus_any {n m : Nat} (h : m ≤ n) (hn : n < 340282366920938463463374607431768211456) (w : World) :
    Calls Tryz.prog 46 #[wv n, wv m] w fun e w' => e = .returned (wv (n - m)) ∧ Below w.heap.size w w' := by
  unfold wv
  have hl : IntKind.u64.wrap ((((n) % 18446744073709551616 : Nat) : Int) - (((m) % 18446744073709551616 : Nat) : Int)) = (((n - m) % 18446744073709551616 : Nat) : Int) := by
    rw [IntKind.wrap_u64]
    omega
  by_cases c1 : n % 18446744073709551616 < m % 18446744073709551616
  · have hh : IntKind.u64.wrap (IntKind.u64.wrap ((((n) / 18446744073709551616 : Nat) : Int) - (((m) / 18446744073709551616 : Nat) : Int)) - 1) = (((n - m) / 18446744073709551616 : Nat) : Int) := by
      rw [IntKind.wrap_u64, IntKind.wrap_u64]
      omega
    have c2 : (((n) % 18446744073709551616 : Nat) : Int) < (((m) % 18446744073709551616 : Nat) : Int) := by omega
    clear c1 h
    obtain ⟨x, hvx⟩ : ∃ z : Int, z = (((n - m) % 18446744073709551616 : Nat) : Int) := ⟨_, rfl⟩
    rw [← hvx] at hl ⊢
    clear hvx
    obtain ⟨y, hvy⟩ : ∃ z : Int, z = (((n - m) / 18446744073709551616 : Nat) : Int) := ⟨_, rfl⟩
    rw [← hvy] at hh ⊢
    clear hvy
    obtain ⟨a, hva⟩ : ∃ z : Int, z = (((n) / 18446744073709551616 : Nat) : Int) := ⟨_, rfl⟩
    rw [← hva] at hh ⊢
    clear hva
    obtain ⟨b, hvb⟩ : ∃ z : Int, z = (((n) % 18446744073709551616 : Nat) : Int) := ⟨_, rfl⟩
    rw [← hvb] at hl c2 ⊢
    clear hvb
    obtain ⟨c, hvc⟩ : ∃ z : Int, z = (((m) / 18446744073709551616 : Nat) : Int) := ⟨_, rfl⟩
    rw [← hvc] at hh ⊢
    clear hvc
    obtain ⟨d, hvd⟩ : ∃ z : Int, z = (((m) % 18446744073709551616 : Nat) : Int) := ⟨_, rfl⟩
    rw [← hvd] at hl c2 ⊢
    clear hvd
    go_enter Tryz.func46, Tryz.ntmps46
    go_wp2
    refine bodyPost_ret (v := .agg #[.int .u64 y, .int .u64 x]) (by simp [results, Tryz.results46, go_sem]) rfl ?_
    exact ⟨rfl, bel_alloc (bel_alloc (bel_alloc (Below.refl _ _) _) _) _⟩
  · have hh : IntKind.u64.wrap ((((n) / 18446744073709551616 : Nat) : Int) - (((m) / 18446744073709551616 : Nat) : Int)) = (((n - m) / 18446744073709551616 : Nat) : Int) := by
      rw [IntKind.wrap_u64]
      omega
    have c2 : ¬ (((n) % 18446744073709551616 : Nat) : Int) < (((m) % 18446744073709551616 : Nat) : Int) := by omega
    clear c1 h
    obtain ⟨x, hvx⟩ : ∃ z : Int, z = (((n - m) % 18446744073709551616 : Nat) : Int) := ⟨_, rfl⟩
    rw [← hvx] at hl ⊢
    clear hvx
    obtain ⟨y, hvy⟩ : ∃ z : Int, z = (((n - m) / 18446744073709551616 : Nat) : Int) := ⟨_, rfl⟩
    rw [← hvy] at hh ⊢
    clear hvy
    obtain ⟨a, hva⟩ : ∃ z : Int, z = (((n) / 18446744073709551616 : Nat) : Int) := ⟨_, rfl⟩
    rw [← hva] at hh ⊢
    clear hva
    obtain ⟨b, hvb⟩ : ∃ z : Int, z = (((n) % 18446744073709551616 : Nat) : Int) := ⟨_, rfl⟩
    rw [← hvb] at hl c2 ⊢
    clear hvb
    obtain ⟨c, hvc⟩ : ∃ z : Int, z = (((m) / 18446744073709551616 : Nat) : Int) := ⟨_, rfl⟩
    rw [← hvc] at hh ⊢
    clear hvc
    obtain ⟨d, hvd⟩ : ∃ z : Int, z = (((m) % 18446744073709551616 : Nat) : Int) := ⟨_, rfl⟩
    rw [← hvd] at hl c2 ⊢
    clear hvd
    go_enter Tryz.func46, Tryz.ntmps46
    go_wp2
    refine bodyPost_ret (v := .agg #[.int .u64 y, .int .u64 x]) (by simp [results, Tryz.results46, go_sem]) rfl ?_
    exact ⟨rfl, bel_alloc (bel_alloc (bel_alloc (Below.refl _ _) _) _) _⟩

set_option maxHeartbeats 2000000 in
theorem wleft_any {n k : Nat} (hk : k < 128) (hn : n * 2 ^ k < 340282366920938463463374607431768211456) (w : World) :
    Calls Tryz.prog 43 #[wv n, .int .i64 ((k : Nat) : Int)] w fun e w' => e = .returned (wv (n * 2 ^ k)) ∧ Below w.heap.size w w' := by
  unfold wv
  by_cases h64 : 64 ≤ k
  · obtain ⟨e1, e2⟩ := left_far h64 hn
    have g0 := shl_fact (n % 18446744073709551616) (k - 64)
    rw [e1] at g0
    rw [e2]
    obtain ⟨L, hvL⟩ : ∃ z : Int, z = (((n) % 18446744073709551616 : Nat) : Int) := ⟨_, rfl⟩
    rw [← hvL] at g0 ⊢
    clear hvL
    obtain ⟨R, hvR⟩ : ∃ z : Int, z = (((n * 2 ^ k) / 18446744073709551616 : Nat) : Int) := ⟨_, rfl⟩
    rw [← hvR] at g0 ⊢
    clear hvR
    clear e1 e2 hn
    have hK : (((k : Nat) : Int) - 64).toNat = k - 64 := by omega
    have k1 : (64 : Int) ≤ ((k : Nat) : Int) := by omega
    have k2 : ((k : Nat) : Int) < 128 := by omega
    have hw : IntKind.i64.wrap (((k : Nat) : Int) - 64) = ((k : Nat) : Int) - 64 := by
      rw [IntKind.wrap_i64]
      omega
    go_enter Tryz.func43, Tryz.ntmps43
    go_wp2
    refine bodyPost_ret (v := .agg #[.int .u64 R, .int .u64 0]) (by simp [results, Tryz.results43, go_sem]) rfl ?_
    exact ⟨rfl, bel_alloc (bel_alloc (Below.refl _ _) _) _⟩
  · by_cases h0 : k = 0
    · subst h0
      rw [Nat.pow_zero, Nat.mul_one]
      clear hn
      obtain ⟨H, hvH⟩ : ∃ z : Int, z = (((n) / 18446744073709551616 : Nat) : Int) := ⟨_, rfl⟩
      rw [← hvH] at ⊢
      clear hvH
      obtain ⟨L, hvL⟩ : ∃ z : Int, z = (((n) % 18446744073709551616 : Nat) : Int) := ⟨_, rfl⟩
      rw [← hvL] at ⊢
      clear hvL
      go_enter Tryz.func43, Tryz.ntmps43
      go_wp2
      refine bodyPost_ret (v := .agg #[.int .u64 H, .int .u64 L]) (by simp [results, Tryz.results43, go_sem]) rfl ?_
      exact ⟨rfl, bel_alloc (bel_alloc (Below.refl _ _) _) _⟩
    · obtain ⟨e1, e2⟩ := left_words (k := k) (by omega) (by omega) hn
      have g1 := shl_fact (n / 18446744073709551616) k
      have g2 := shr_fact (n % 18446744073709551616) (64 - k)
      have g3 : bits .or .u64 (((n / 18446744073709551616 * 2 ^ k % 18446744073709551616 : Nat)) : Int) (((n % 18446744073709551616 / 2 ^ (64 - k) : Nat)) : Int) = (((n * 2 ^ k) / 18446744073709551616 : Nat) : Int) := by
        rw [← e1]
        exact u64_or_nat _ _ (by omega) (Nat.lt_of_le_of_lt (Nat.div_le_self _ _) (by omega))
      have g4 := shl_fact (n % 18446744073709551616) k
      rw [e2] at g4
      clear e1 e2 hn
      obtain ⟨A, hvA⟩ : ∃ z : Int, z = (((n / 18446744073709551616 * 2 ^ k % 18446744073709551616 : Nat)) : Int) := ⟨_, rfl⟩
      rw [← hvA] at g1 g3
      clear hvA
      obtain ⟨B, hvB⟩ : ∃ z : Int, z = (((n % 18446744073709551616 / 2 ^ (64 - k) : Nat)) : Int) := ⟨_, rfl⟩
      rw [← hvB] at g2 g3
      clear hvB
      obtain ⟨R1, hvR1⟩ : ∃ z : Int, z = (((n * 2 ^ k) / 18446744073709551616 : Nat) : Int) := ⟨_, rfl⟩
      rw [← hvR1] at g3 ⊢
      clear hvR1
      obtain ⟨R2, hvR2⟩ : ∃ z : Int, z = (((n * 2 ^ k) % 18446744073709551616 : Nat) : Int) := ⟨_, rfl⟩
      rw [← hvR2] at g4 ⊢
      clear hvR2
      obtain ⟨H, hvH⟩ : ∃ z : Int, z = (((n) / 18446744073709551616 : Nat) : Int) := ⟨_, rfl⟩
      rw [← hvH] at g1 ⊢
      clear hvH
      obtain ⟨L, hvL⟩ : ∃ z : Int, z = (((n) % 18446744073709551616 : Nat) : Int) := ⟨_, rfl⟩
      rw [← hvL] at g2 g4 ⊢
      clear hvL
      have hK : ((64 : Int) - ((k : Nat) : Int)).toNat = 64 - k := by omega
      have k1 : (0 : Int) < ((k : Nat) : Int) := by omega
      have k2 : ((k : Nat) : Int) < 64 := by omega
      have k3 : ¬ ((k : Nat) : Int) = 0 := by omega
      have hw : IntKind.i64.wrap ((64 : Int) - ((k : Nat) : Int)) = (64 : Int) - ((k : Nat) : Int) := by
        rw [IntKind.wrap_i64]
        omega
      go_enter Tryz.func43, Tryz.ntmps43
      go_wp2
      go_region
      go_wp2
      refine bodyPost_ret (v := .agg #[.int .u64 R1, .int .u64 R2]) (by simp [results, Tryz.results43, go_sem]) rfl ?_
      exact ⟨rfl, below_drewN ( bel_alloc (bel_alloc (Below.refl _ _) _) _) _⟩

set_option maxHeartbeats 2000000 in
theorem wright_any {n k : Nat} (hk : k < 128) (hn : n < 340282366920938463463374607431768211456) (w : World) :
    Calls Tryz.prog 73 #[wv n, .int .i64 ((k : Nat) : Int)] w fun e w' => e = .returned (wv (n / 2 ^ k)) ∧ Below w.heap.size w w' := by
  unfold wv
  by_cases h64 : 64 ≤ k
  · obtain ⟨e1, e2⟩ := right_far h64 hk hn
    have g0 := shr_fact (n / 18446744073709551616) (k - 64)
    rw [e1] at g0
    rw [e2]
    obtain ⟨H, hvH⟩ : ∃ z : Int, z = (((n) / 18446744073709551616 : Nat) : Int) := ⟨_, rfl⟩
    rw [← hvH] at g0 ⊢
    clear hvH
    obtain ⟨R, hvR⟩ : ∃ z : Int, z = (((n / 2 ^ k) % 18446744073709551616 : Nat) : Int) := ⟨_, rfl⟩
    rw [← hvR] at g0 ⊢
    clear hvR
    clear e1 e2 hn
    have hK : (((k : Nat) : Int) - 64).toNat = k - 64 := by omega
    have k1 : (64 : Int) ≤ ((k : Nat) : Int) := by omega
    have k2 : ((k : Nat) : Int) < 128 := by omega
    have hw : IntKind.i64.wrap (((k : Nat) : Int) - 64) = ((k : Nat) : Int) - 64 := by
      rw [IntKind.wrap_i64]
      omega
    go_enter Tryz.func73, Tryz.ntmps73
    go_wp2
    refine bodyPost_ret (v := .agg #[.int .u64 0, .int .u64 R]) (by simp [results, Tryz.results73, go_sem]) rfl ?_
    exact ⟨rfl, bel_alloc (bel_alloc (Below.refl _ _) _) _⟩
  · by_cases h0 : k = 0
    · subst h0
      rw [Nat.pow_zero, Nat.div_one]
      clear hn
      obtain ⟨H, hvH⟩ : ∃ z : Int, z = (((n) / 18446744073709551616 : Nat) : Int) := ⟨_, rfl⟩
      rw [← hvH] at ⊢
      clear hvH
      obtain ⟨L, hvL⟩ : ∃ z : Int, z = (((n) % 18446744073709551616 : Nat) : Int) := ⟨_, rfl⟩
      rw [← hvL] at ⊢
      clear hvL
      go_enter Tryz.func73, Tryz.ntmps73
      go_wp2
      refine bodyPost_ret (v := .agg #[.int .u64 H, .int .u64 L]) (by simp [results, Tryz.results73, go_sem]) rfl ?_
      exact ⟨rfl, bel_alloc (bel_alloc (Below.refl _ _) _) _⟩
    · obtain ⟨e1, e2⟩ := right_words (k := k) (by omega) (by omega) hn
      have g1 := shr_fact (n / 18446744073709551616) k
      rw [e1] at g1
      have g2 := shr_fact (n % 18446744073709551616) k
      have g4 := shl_fact (n / 18446744073709551616) (64 - k)
      have g3 : bits .or .u64 (((n % 18446744073709551616 / 2 ^ k : Nat)) : Int) (((n / 18446744073709551616 * 2 ^ (64 - k) % 18446744073709551616 : Nat)) : Int) = (((n / 2 ^ k) % 18446744073709551616 : Nat) : Int) := by
        rw [← e2]
        exact u64_or_nat _ _ (Nat.lt_of_le_of_lt (Nat.div_le_self _ _) (by omega)) (by omega)
      clear e1 e2 hn
      obtain ⟨A, hvA⟩ : ∃ z : Int, z = (((n % 18446744073709551616 / 2 ^ k : Nat)) : Int) := ⟨_, rfl⟩
      rw [← hvA] at g2 g3
      clear hvA
      obtain ⟨B, hvB⟩ : ∃ z : Int, z = (((n / 18446744073709551616 * 2 ^ (64 - k) % 18446744073709551616 : Nat)) : Int) := ⟨_, rfl⟩
      rw [← hvB] at g4 g3
      clear hvB
      obtain ⟨R1, hvR1⟩ : ∃ z : Int, z = (((n / 2 ^ k) / 18446744073709551616 : Nat) : Int) := ⟨_, rfl⟩
      rw [← hvR1] at g1 ⊢
      clear hvR1
      obtain ⟨R2, hvR2⟩ : ∃ z : Int, z = (((n / 2 ^ k) % 18446744073709551616 : Nat) : Int) := ⟨_, rfl⟩
      rw [← hvR2] at g3 ⊢
      clear hvR2
      obtain ⟨H, hvH⟩ : ∃ z : Int, z = (((n) / 18446744073709551616 : Nat) : Int) := ⟨_, rfl⟩
      rw [← hvH] at g1 g4 ⊢
      clear hvH
      obtain ⟨L, hvL⟩ : ∃ z : Int, z = (((n) % 18446744073709551616 : Nat) : Int) := ⟨_, rfl⟩
      rw [← hvL] at g2 ⊢
      clear hvL
      have hK : ((64 : Int) - ((k : Nat) : Int)).toNat = 64 - k := by omega
      have k1 : (0 : Int) < ((k : Nat) : Int) := by omega
      have k2 : ((k : Nat) : Int) < 64 := by omega
      have k3 : ¬ ((k : Nat) : Int) = 0 := by omega
      have hw : IntKind.i64.wrap ((64 : Int) - ((k : Nat) : Int)) = (64 : Int) - ((k : Nat) : Int) := by
        rw [IntKind.wrap_i64]
        omega
      go_enter Tryz.func73, Tryz.ntmps73
      go_wp2
      go_region
      go_wp2
      refine bodyPost_ret (v := .agg #[.int .u64 R1, .int .u64 R2]) (by simp [results, Tryz.results73, go_sem]) rfl ?_
      exact ⟨rfl, below_drewN ( bel_alloc (bel_alloc (Below.refl _ _) _) _) _⟩

end Go.Proofs.YtjlnbfpjlladoaaGreatDoor
