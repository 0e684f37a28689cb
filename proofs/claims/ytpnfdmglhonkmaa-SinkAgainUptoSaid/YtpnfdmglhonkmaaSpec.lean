/- The plain functions that layer 2's Go functions compute: no program in sight. -/
import Derived.WalkKit
set_option maxRecDepth 100000
namespace Go.Proofs.Ytpnfdmglhonkmaa

/-- a byte as a value -/
def B (c : UInt8) : Value := .int .u8 (c.toNat : Int)

theorem B_of (k : Nat) (h : k < 256) : Value.int .u8 (k : Int) = B (UInt8.ofNat k) := by
  unfold B
  rw [UInt8.toNat_ofNat']
  congr 2
  omega

theorem B_one (c : UInt8) : (B c).oneCell' = true := rfl

/-- a text of bytes -/
def str (l : List UInt8) : ByteArray := ⟨l.toArray⟩

theorem str_size (l : List UInt8) : (str l).size = l.length := by simp [str, ByteArray.size]

/-- the form of a number, as bytes -/
def vb (n : Nat) : List UInt8 := if n < 128 then [UInt8.ofNat n] else UInt8.ofNat (n % 128 + 128) :: vb (n / 128)
decreasing_by omega

theorem vb_lt {n : Nat} (h : n < 128) : vb n = [UInt8.ofNat n] := by rw [vb, if_pos h]
theorem vb_ge {n : Nat} (h : ¬ n < 128) : vb n = UInt8.ofNat (n % 128 + 128) :: vb (n / 128) := by rw [vb, if_neg h]

theorem vb_len : ∀ (k n : Nat), n < 128 ^ (k + 1) → (vb n).length ≤ k + 1
  | 0, n, h => by rw [vb_lt (by simpa using h)]; simp
  | k + 1, n, h => by
    by_cases hn : n < 128
    · rw [vb_lt hn]; simp
    · rw [vb_ge hn]
      have := vb_len k (n / 128) (by rw [Nat.div_lt_iff_lt_mul (by omega)]; rw [Nat.pow_succ] at h; exact h)
      simp only [List.length_cons]
      omega

theorem vb_len10 (n : Nat) (h : n < 18446744073709551616) : (vb n).length ≤ 10 := vb_len 9 n (Nat.lt_trans h (by decide))

theorem vb_pos (n : Nat) : 0 < (vb n).length := by
  by_cases h : n < 128
  · rw [vb_lt h]; simp
  · rw [vb_ge h]; simp

theorem vb_mono : ∀ (k n m : Nat), n < 128 ^ (k + 1) → n ≤ m → (vb n).length ≤ (vb m).length
  | 0, n, m, h, hle => by
    rw [vb_lt (by simpa using h)]
    exact vb_pos m
  | k + 1, n, m, h, hle => by
    by_cases hn : n < 128
    · rw [vb_lt hn]; exact vb_pos m
    · rw [vb_ge hn, vb_ge (by omega : ¬ m < 128)]
      have := vb_mono k (n / 128) (m / 128) (by rw [Nat.div_lt_iff_lt_mul (by omega)]; rw [Nat.pow_succ] at h; exact h) (Nat.div_le_div_right hle)
      simp only [List.length_cons]
      omega

theorem vb_high : ∀ (k n : Nat), n < 128 ^ (k + 1) → ∀ (i : Nat) (h : i + 1 < (vb n).length), 128 ≤ ((vb n)[i]).toNat
  | 0, n, hn, i, h => by
    rw [vb_lt (by simpa using hn)] at h
    simp at h
  | k + 1, n, hk, i, h => by
    by_cases hn : n < 128
    · rw [vb_lt hn] at h
      simp at h
    · have e := vb_ge hn
      simp only [e] at h ⊢
      match i with
      | 0 =>
        simp only [List.getElem_cons_zero, UInt8.toNat_ofNat']
        omega
      | i + 1 =>
        simp only [List.getElem_cons_succ]
        exact vb_high k (n / 128) (by rw [Nat.div_lt_iff_lt_mul (by omega)]; rw [Nat.pow_succ] at hk; exact hk) i (by simp only [List.length_cons] at h; omega)

theorem vb_low : ∀ (k n : Nat), n < 128 ^ (k + 1) → ∀ (h : (vb n).length - 1 < (vb n).length), ((vb n)[(vb n).length - 1]).toNat < 128
  | 0, n, hn, h => by
    have e := vb_lt (n := n) (by simpa using hn)
    simp only [e, List.length_cons, List.length_nil, Nat.zero_add, Nat.sub_self, List.getElem_cons_zero, UInt8.toNat_ofNat']
    simp at hn
    omega
  | k + 1, n, hk, h => by
    by_cases hn : n < 128
    · have e := vb_lt hn
      simp only [e, List.length_cons, List.length_nil, Nat.zero_add, Nat.sub_self, List.getElem_cons_zero, UInt8.toNat_ofNat']
      omega
    · have e := vb_ge hn
      have hp := vb_pos (n / 128)
      have ih := vb_low k (n / 128) (by rw [Nat.div_lt_iff_lt_mul (by omega)]; rw [Nat.pow_succ] at hk; exact hk) (by omega)
      have e2 : (vb (n / 128)).length + 1 - 1 = ((vb (n / 128)).length - 1) + 1 := by omega
      simp only [e, List.length_cons, e2, List.getElem_cons_succ]
      exact ih

/-- how many bits a number has -/
def blen (x : Nat) : Nat := if x = 0 then 0 else blen (x / 2) + 1
decreasing_by omega

theorem blen_zero : blen 0 = 0 := by rw [blen]; rfl
theorem blen_pos {x : Nat} (h : 0 < x) : blen x = blen (x / 2) + 1 := by rw [blen, if_neg (by omega)]
theorem blen_le : ∀ (k x : Nat), x < 2 ^ k → blen x ≤ k
  | 0, x, h => by
    have : x = 0 := by simpa using h
    rw [this, blen_zero]
    exact Nat.le_refl _
  | k + 1, x, h => by
    by_cases hx : x = 0
    · rw [hx, blen_zero]; omega
    · rw [blen_pos (by omega)]
      have := blen_le k (x / 2) (by rw [Nat.pow_succ] at h; omega)
      omega

theorem blen_7 {n : Nat} (h : ¬ n < 128) : blen n = blen (n / 128) + 7 := by
  rw [blen_pos (by omega : 0 < n), blen_pos (by omega : 0 < n / 2), blen_pos (by omega : 0 < n / 2 / 2), blen_pos (by omega : 0 < n / 2 / 2 / 2), blen_pos (by omega : 0 < n / 2 / 2 / 2 / 2),
    blen_pos (by omega : 0 < n / 2 / 2 / 2 / 2 / 2), blen_pos (by omega : 0 < n / 2 / 2 / 2 / 2 / 2 / 2)]
  have e : n / 2 / 2 / 2 / 2 / 2 / 2 / 2 = n / 128 := by omega
  rw [e]

theorem vb_blen : ∀ (k n : Nat), n < 128 ^ (k + 1) → (vb n).length = max 1 ((blen n + 6) / 7)
  | 0, n, h => by
    have h7 := blen_le 7 n (by simpa using h)
    rw [vb_lt (by simpa using h)]
    simp only [List.length_cons, List.length_nil]
    omega
  | k + 1, n, h => by
    by_cases hn : n < 128
    · have h7 := blen_le 7 n (by simpa using hn)
      rw [vb_lt hn]
      simp only [List.length_cons, List.length_nil]
      omega
    · have ih := vb_blen k (n / 128) (by rw [Nat.div_lt_iff_lt_mul (by omega)]; rw [Nat.pow_succ] at h; exact h)
      have hp : 0 < blen (n / 128) := by rw [blen_pos (by omega : 0 < n / 128)]; omega
      rw [vb_ge hn, blen_7 hn, List.length_cons, ih]
      omega

/-- the form of 64 bits -/
def bb (n : Nat) : List UInt8 := (List.range 8).map fun i => UInt8.ofNat (n / 2 ^ (56 - 8 * i) % 256)

theorem bb_len (n : Nat) : (bb n).length = 8 := by simp [bb]

/-- bytes, the highest first, as a number -/
def bitsOf (l : List UInt8) : Nat := l.foldl (fun n c => n * 256 + c.toNat) 0

theorem bitsOf_snoc (l : List UInt8) (c : UInt8) : bitsOf (l ++ [c]) = bitsOf l * 256 + c.toNat := by simp [bitsOf]
theorem bitsOf_take {l : List UInt8} {k : Nat} (h : k < l.length) : bitsOf (l.take (k + 1)) = bitsOf (l.take k) * 256 + (l[k]).toNat := by
  rw [List.take_succ_eq_append_getElem h, bitsOf_snoc]
theorem bitsOf_lt : ∀ (k : Nat) (l : List UInt8), bitsOf (l.take k) < 256 ^ k
  | 0, l => by simp [bitsOf]
  | k + 1, l => by
    have ih := bitsOf_lt k l
    by_cases h : k < l.length
    · rw [bitsOf_take h, Nat.pow_succ]
      have := (l[k]).toNat_lt
      omega
    · rw [List.take_of_length_le (by omega), ← List.take_of_length_le (show l.length ≤ k by omega), Nat.pow_succ]
      omega

/-- a number read: its value and how many bytes it took, or what is wrong (i bytes are read) -/
def rdv (i acc : Nat) : List UInt8 → Except Int (Nat × Nat)
  | [] => if i < 10 then .error 20 else .error 22
  | c :: t => if 10 ≤ i then .error 22 else
    if 128 ≤ c.toNat then rdv (i + 1) (acc + c.toNat % 128 * 128 ^ i) t
    else if (0 < i ∧ c.toNat = 0) ∨ (i = 9 ∧ 1 < c.toNat) then .error 22 else .ok (acc + c.toNat * 128 ^ i, i + 1)

theorem rdv_ten (acc : Nat) (l : List UInt8) : rdv 10 acc l = .error 22 := by cases l <;> simp [rdv]

theorem rdv_short {i acc : Nat} {l : List UInt8} (hi : i < 10) (hl : l.length ≤ i) : rdv i acc (l.drop i) = .error 20 := by
  rw [List.drop_of_length_le hl]; simp [rdv, hi]

theorem rdv_more {i acc : Nat} {l : List UInt8} (hi : i < 10) (hl : i < l.length) (hc : 128 ≤ (l[i]).toNat) :
    rdv i acc (l.drop i) = rdv (i + 1) (acc + (l[i]).toNat % 128 * 128 ^ i) (l.drop (i + 1)) := by
  rw [List.drop_eq_getElem_cons hl, rdv, if_neg (by omega), if_pos hc]

theorem rdv_form {i acc : Nat} {l : List UInt8} (hi : i < 10) (hl : i < l.length) (hc : (l[i]).toNat < 128) (hb : (0 < i ∧ (l[i]).toNat = 0) ∨ (i = 9 ∧ 1 < (l[i]).toNat)) :
    rdv i acc (l.drop i) = .error 22 := by
  rw [List.drop_eq_getElem_cons hl, rdv, if_neg (by omega), if_neg (by omega), if_pos hb]

theorem rdv_ok {i acc : Nat} {l : List UInt8} (hi : i < 10) (hl : i < l.length) (hc : (l[i]).toNat < 128) (hb : ¬ ((0 < i ∧ (l[i]).toNat = 0) ∨ (i = 9 ∧ 1 < (l[i]).toNat))) :
    rdv i acc (l.drop i) = .ok (acc + (l[i]).toNat * 128 ^ i, i + 1) := by
  rw [List.drop_eq_getElem_cons hl, rdv, if_neg (by omega), if_neg (by omega), if_neg hb]

theorem rdv_len : ∀ (l : List UInt8) (i acc n k : Nat), rdv i acc l = .ok (n, k) → i < k ∧ k ≤ i + l.length ∧ k ≤ 10
  | [], i, acc, n, k, h => by
    unfold rdv at h
    split at h <;> cases h
  | c :: t, i, acc, n, k, h => by
    unfold rdv at h
    split at h
    · cases h
    · rename_i h10
      split at h
      · have := rdv_len t (i + 1) _ n k h
        simp only [List.length_cons]
        omega
      · split at h
        · cases h
        · injection h with h
          injection h with h1 h2
          simp only [List.length_cons]
          omega

/-- .. at most so great; else it is 'over' -/
def numR (l : List UInt8) (most : Nat) (over : Int) : Except Int (Nat × Nat) :=
  match rdv 0 0 l with
  | .error x => .error x
  | .ok (n, k) => if n ≤ most then .ok (n, k) else .error over

theorem numR_rdv {l : List UInt8} {most n k : Nat} {over : Int} (h : numR l most over = .ok (n, k)) : rdv 0 0 l = .ok (n, k) ∧ n ≤ most := by
  unfold numR at h
  cases hr : rdv 0 0 l with
  | error c => rw [hr] at h; cases h
  | ok v =>
    obtain ⟨m, j⟩ := v
    rw [hr] at h
    by_cases hm : m ≤ most
    · simp [hm] at h
      obtain ⟨rfl, rfl⟩ := h
      exact ⟨rfl, hm⟩
    · simp [hm] at h

theorem numR_len {l : List UInt8} {most n k : Nat} {over : Int} (h : numR l most over = .ok (n, k)) : 0 < k ∧ k ≤ l.length ∧ k ≤ 10 := by
  have := rdv_len l 0 0 n k (numR_rdv h).1
  omega

end Go.Proofs.Ytpnfdmglhonkmaa
