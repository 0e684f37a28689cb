/- What lays: the reference's Num; Text, Bits of both. Plain laws of what layer 2 lays and reads: no program in sight. Messages, their fields, what layer 7 checks, lays and reads: plain functions, no program in sight. -/
import Derived.Test.YtdkencepmdfacaaGreatDoorPk
set_option maxRecDepth 100000
namespace Go.Proofs.YtdkencepmdfacaaGreatDoor
open Go.RowKit

/-- the form of a text -/
def tb (l : List UInt8) : List UInt8 := vb l.length ++ l

set_option maxRecDepth 100000 in
theorem bits_conv (n : Nat) (w : World) (hn : n < 18446744073709551616) :
    (convert 43 9 (.slice (some ⟨w.heap.size, 0, none⟩) 8 8)).run Tryz.prog (w.alloc (.cells #[.int .u8 ((n : Int) / 72057594037927936), .int .u8 ((n : Int) / 281474976710656 % 256), .int .u8 ((n : Int) / 1099511627776 % 256), .int .u8 ((n : Int) / 4294967296 % 256), .int .u8 ((n : Int) / 16777216 % 256), .int .u8 ((n : Int) / 65536 % 256), .int .u8 ((n : Int) / 256 % 256), .int .u8 ((n : Int) % 256)] 190)) =
      .ok (.string (str (bb n))) (w.alloc (.cells #[.int .u8 ((n : Int) / 72057594037927936), .int .u8 ((n : Int) / 281474976710656 % 256), .int .u8 ((n : Int) / 1099511627776 % 256), .int .u8 ((n : Int) / 4294967296 % 256), .int .u8 ((n : Int) / 16777216 % 256), .int .u8 ((n : Int) / 65536 % 256), .int .u8 ((n : Int) / 256 % 256), .int .u8 ((n : Int) % 256)] 190)) := by
  have h := run_convert_bytes_arg (P := Tryz.prog) (w.alloc (.cells #[.int .u8 ((n : Int) / 72057594037927936), .int .u8 ((n : Int) / 281474976710656 % 256), .int .u8 ((n : Int) / 1099511627776 % 256), .int .u8 ((n : Int) / 4294967296 % 256), .int .u8 ((n : Int) / 16777216 % 256), .int .u8 ((n : Int) / 65536 % 256), .int .u8 ((n : Int) / 256 % 256), .int .u8 ((n : Int) % 256)] 190)) 43 5 Tryz.underlying43 Tryz.underlying5 w.heap.size 0 8 8
    [(n : Int) / 72057594037927936, (n : Int) / 281474976710656 % 256, (n : Int) / 1099511627776 % 256, (n : Int) / 4294967296 % 256, (n : Int) / 16777216 % 256, (n : Int) / 65536 % 256, (n : Int) / 256 % 256, (n : Int) % 256] rfl
    (fun i hi => by
      have e : ∀ (o : Obj), (w.alloc o).heap[w.heap.size]? = some o := fun o => heap_alloc_new w o
      simp only [World.cell?, e, Nat.zero_add]
      match i, hi with
      | 0, _ | 1, _ | 2, _ | 3, _ | 4, _ | 5, _ | 6, _ | 7, _ => rfl) 9 Tryz.underlying9
  rw [h]
  congr 2
  unfold strOfNums str bb
  congr 2
  simp only [List.map_cons, List.map_nil, List.range, List.range.loop]
  have k0 : ((n : Int) / 72057594037927936).toNat = n / 2 ^ 56 % 256 := by omega
  have k1 : ∀ d : Nat, ((n : Int) / d % 256).toNat = n / d % 256 := fun d => by
    rw [← Int.natCast_ediv]; omega
  have k7 : ((n : Int) % 256).toNat = n % 256 := by omega
  rw [k0, k7]
  have a1 := k1 281474976710656
  have a2 := k1 1099511627776
  have a3 := k1 4294967296
  have a4 := k1 16777216
  have a5 := k1 65536
  have a6 := k1 256
  simp only [Int.cast_ofNat_Int] at a1 a2 a3 a4 a5 a6
  rw [a1, a2, a3, a4, a5, a6]
  simp

set_option maxHeartbeats 1000000 in
theorem Bits_any (n : Nat) (w : World) (hn : n < 18446744073709551616) :
    Calls Tryz.prog 132 #[.int .u64 n] w fun e w' => e = .returned (.string (str (bb n))) ∧ Below w.heap.size w w' := by
  have hcv := bits_conv n w hn
  go_enter Tryz.func132, Tryz.ntmps132
  go_wp2
  refine wp_loop_rounds 9 ?_
  iterate 9 (rw [rounds_succ]; go_wp2)
  go_ret
  exact ⟨rfl, (Below.refl _ w).alloc (Nat.le_refl _) _⟩

end Go.Proofs.YtdkencepmdfacaaGreatDoor

namespace Go.Proofs.YtdkencepmdfacaaGreatDoor
open Go.RowKit

theorem rdrStep_fault {α : Type} {zero : α} {r : Except Int (α × Nat)} {p : Nat} {e : Int} (he : e ≠ 0) : rdrStep zero r p e = (zero, p, e) := by
  unfold rdrStep
  rw [if_pos he]

theorem drop_len (b : ByteArray) (p : Nat) : (b.data.toList.drop p).length = b.size - p := by rw [List.length_drop]; rfl

theorem num_le {b : ByteArray} {p most : Nat} {over : Int} {v : Int} {k : Nat} (hp : p ≤ b.size) (h : upR (numR (b.data.toList.drop p) most over) = .ok (v, k)) : p + k ≤ b.size := by
  unfold upR at h
  cases hr : numR (b.data.toList.drop p) most over with
  | error c => rw [hr] at h; cases h
  | ok nk =>
    obtain ⟨n, j⟩ := nk
    have h1 := numR_len hr
    rw [hr] at h
    rw [drop_len] at h1
    simp at h
    omega

theorem bits_le {b : ByteArray} {p : Nat} {v : Int} {k : Nat} (hp : p ≤ b.size) (h : bitsR (b.data.toList.drop p) = .ok (v, k)) : p + k ≤ b.size := by
  unfold bitsR at h
  rw [drop_len] at h
  split at h
  · injection h with h
    injection h with _ h
    omega
  · cases h

theorem rdv_vb : ∀ (j n i acc : Nat) (rest : List UInt8), n < 128 ^ (j + 1) → i ≤ 9 → n * 128 ^ i < 18446744073709551616 → (0 < i → 0 < n) → rdv i acc (vb n ++ rest) = .ok (acc + n * 128 ^ i, i + (vb n).length)
  | 0, n, i, acc, rest, hj, hi, hb, h0 => by
    have hn : n < 128 := by simpa using hj
    have hc : (UInt8.ofNat n).toNat = n := by rw [UInt8.toNat_ofNat']; omega
    rw [vb_lt hn, List.cons_append, List.nil_append, rdv, if_neg (by omega), hc, if_neg (by omega), if_neg]
    · rfl
    · rintro (⟨h1, h2⟩ | ⟨h1, h2⟩)
      · have := h0 h1; omega
      · subst h1; omega
  | j + 1, n, i, acc, rest, hj, hi, hb, h0 => by
    by_cases hn : n < 128
    · have hc : (UInt8.ofNat n).toNat = n := by rw [UInt8.toNat_ofNat']; omega
      rw [vb_lt hn, List.cons_append, List.nil_append, rdv, if_neg (by omega), hc, if_neg (by omega), if_neg]
      · rfl
      · rintro (⟨h1, h2⟩ | ⟨h1, h2⟩)
        · have := h0 h1; omega
        · subst h1; omega
    · have hc : (UInt8.ofNat (n % 128 + 128)).toNat = n % 128 + 128 := by rw [UInt8.toNat_ofNat']; omega
      have hi9 : i ≠ 9 := by rintro rfl; omega
      have hmul : (n / 128) * 128 ^ (i + 1) ≤ n * 128 ^ i := by
        rw [Nat.pow_succ, Nat.mul_comm (128 ^ i), ← Nat.mul_assoc]
        exact Nat.mul_le_mul_right _ (by omega)
      rw [vb_ge hn, List.cons_append, rdv, if_neg (by omega), hc, if_pos (by omega), rdv_vb j (n / 128) (i + 1) _ rest (by rw [Nat.div_lt_iff_lt_mul (by omega)]; rw [Nat.pow_succ] at hj; exact hj) (by omega) (by omega) (by omega)]
      have e1 : (n % 128 + 128) % 128 = n % 128 := by omega
      have e2 : n * 128 ^ i = n % 128 * 128 ^ i + n / 128 * 128 ^ (i + 1) := by
        have : n = n % 128 + n / 128 * 128 := by omega
        conv => lhs; rw [this]
        rw [Nat.add_mul, Nat.pow_succ, Nat.mul_assoc (n / 128), Nat.mul_comm 128]
      rw [e1, e2, List.length_cons, Nat.add_assoc]
      congr 2
      omega

theorem rdv_laid (n : Nat) (rest : List UInt8) (hn : n < 18446744073709551616) : rdv 0 0 (vb n ++ rest) = .ok (n, (vb n).length) := by
  have h := rdv_vb 9 n 0 0 rest (Nat.lt_trans hn (by decide)) (by omega) (by omega) (by omega)
  simpa using h

theorem bitsOf_bb (n : Nat) (hn : n < 18446744073709551616) : bitsOf (bb n) = n := by
  unfold bb bitsOf
  simp only [List.range, List.range.loop, List.map_cons, List.map_nil, List.foldl_cons, List.foldl_nil, UInt8.toNat_ofNat', Nat.zero_mul, Nat.zero_add]
  simp only [Nat.reduceMul, Nat.reduceSub, Nat.reducePow, Nat.mod_mod, Nat.mul_zero]
  omega

/-- a thing's form -/
theorem str_data (l : List UInt8) : (str l).data.toList = l := rfl

theorem ofNat_toNat8 (c : UInt8) : UInt8.ofNat c.toNat = c := by simp

theorem rdv_inv : ∀ (l : List UInt8) (i acc N k : Nat), rdv i acc l = .ok (N, k) → acc < 128 ^ i → i < k ∧ N < 18446744073709551616 ∧ ∃ m, N = acc + m * 128 ^ i ∧ vb m = l.take (k - i) ∧ (0 < i → 0 < m)
  | [], i, acc, N, k, h, _ => by
    unfold rdv at h
    split at h <;> cases h
  | c :: t, i, acc, N, k, h, ha => by
    have hc := c.toNat_lt
    unfold rdv at h
    split at h
    · cases h
    · rename_i h10
      split at h
      · rename_i h128
        obtain ⟨h1, h2, m, h3, h4, h5⟩ := rdv_inv t (i + 1) _ N k h (by
          rw [Nat.pow_succ]
          have : c.toNat % 128 * 128 ^ i ≤ 127 * 128 ^ i := Nat.mul_le_mul_right _ (by omega)
          omega)
        refine ⟨by omega, h2, c.toNat % 128 + 128 * m, ?_, ?_, fun _ => by have := h5 (by omega); omega⟩
        · rw [h3, Nat.pow_succ, Nat.add_mul, Nat.add_assoc, Nat.mul_comm 128 m, Nat.mul_assoc m, Nat.mul_comm 128]
        · have hm : 0 < m := h5 (by omega)
          have e1 : k - i = (k - (i + 1)) + 1 := by omega
          have e2 : (c.toNat % 128 + 128 * m) / 128 = m := by omega
          have e3 : (c.toNat % 128 + 128 * m) % 128 + 128 = c.toNat := by omega
          rw [vb_ge (by omega), e1, List.take_succ_cons, e2, e3, h4, ofNat_toNat8]
      · rename_i h128
        split at h
        · cases h
        · rename_i hbad
          injection h with h
          injection h with hN hk
          subst hN hk
          refine ⟨by omega, ?_, c.toNat, rfl, ?_, ?_⟩
          · by_cases h9 : i = 9
            · subst h9
              have : c.toNat ≤ 1 := by omega
              have hle : c.toNat * 128 ^ 9 ≤ 1 * 128 ^ 9 := Nat.mul_le_mul_right _ this
              omega
            · have hle : c.toNat * 128 ^ i ≤ 127 * 128 ^ i := Nat.mul_le_mul_right _ (by omega)
              have hp : 128 ^ i ≤ 128 ^ 8 := Nat.pow_le_pow_right (by omega) (by omega)
              omega
          · have e1 : i + 1 - i = 0 + 1 := by omega
            rw [vb_lt (by omega), e1, List.take_succ_cons, List.take_zero, ofNat_toNat8]
          · intro hi
            omega

theorem rdv_form_of {l : List UInt8} {n k : Nat} (h : rdv 0 0 l = .ok (n, k)) : n < 18446744073709551616 ∧ vb n = l.take k := by
  obtain ⟨_, h2, m, h3, h4, _⟩ := rdv_inv l 0 0 n k h (by decide)
  have : m = n := by simpa using h3.symm
  subst this
  exact ⟨h2, h4⟩

theorem bb_bitsOf (l : List UInt8) (h : l.length = 8) : bb (bitsOf l) = l := by
  match l, h with
  | [a, b, c, d, e, f, g, i], _ =>
    have ha := a.toNat_lt
    have hb := b.toNat_lt
    have hc := c.toNat_lt
    have hd := d.toNat_lt
    have he := e.toNat_lt
    have hf := f.toNat_lt
    have hg := g.toNat_lt
    have hi := i.toNat_lt
    unfold bb bitsOf
    simp only [List.range, List.range.loop, List.map_cons, List.map_nil, List.foldl_cons, List.foldl_nil, Nat.zero_mul, Nat.zero_add, Nat.reduceMul, Nat.reduceSub, Nat.reducePow]
    have key : ∀ (x : UInt8) (y : Nat), y = x.toNat → UInt8.ofNat y = x := fun x y h => by rw [h, ofNat_toNat8]
    congr 1
    · exact key _ _ (by omega)
    congr 1
    · exact key _ _ (by omega)
    congr 1
    · exact key _ _ (by omega)
    congr 1
    · exact key _ _ (by omega)
    congr 1
    · exact key _ _ (by omega)
    congr 1
    · exact key _ _ (by omega)
    congr 1
    · exact key _ _ (by omega)
    congr 1
    · exact key _ _ (by omega)

/-- what each kind of call reads is the form of the bytes that it took -/
theorem back_num {b : ByteArray} {p most k : Nat} {v over : Int} (h : upR (numR (b.data.toList.drop p) most over) = .ok (v, k)) :
    ∃ n : Nat, v = (n : Int) ∧ n < 18446744073709551616 ∧ n ≤ most ∧ vb n = (b.data.toList.drop p).take k := by
  unfold upR at h
  cases hr : numR (b.data.toList.drop p) most over with
  | error c => rw [hr] at h; cases h
  | ok nk =>
    obtain ⟨n, j⟩ := nk
    obtain ⟨h1, h2⟩ := numR_rdv hr
    obtain ⟨h3, h4⟩ := rdv_form_of h1
    rw [hr] at h
    injection h with h
    injection h with ha hb
    subst hb
    exact ⟨n, ha.symm, h3, h2, h4⟩

theorem back_bits {b : ByteArray} {p k : Nat} {v : Int} (h : bitsR (b.data.toList.drop p) = .ok (v, k)) :
    ∃ n : Nat, v = (n : Int) ∧ n < 18446744073709551616 ∧ bb n = (b.data.toList.drop p).take k := by
  unfold bitsR at h
  split at h
  · rename_i h8
    injection h with h
    injection h with ha hb
    subst hb
    exact ⟨_, ha.symm, Nat.lt_of_lt_of_le (bitsOf_lt 8 _) (by decide), bb_bitsOf _ (by rw [List.length_take]; omega)⟩
  · cases h

theorem rdv_err : ∀ (l : List UInt8) (i acc : Nat) (c : Int), rdv i acc l = .error c → c ≠ 0
  | [], i, acc, c, h => by
    unfold rdv at h
    split at h <;> (injection h with h; subst h; decide)
  | x :: t, i, acc, c, h => by
    unfold rdv at h
    split at h
    · injection h with h; subst h; decide
    · split at h
      · exact rdv_err t _ _ c h
      · split at h
        · injection h with h; subst h; decide
        · cases h

theorem numR_err {l : List UInt8} {most : Nat} {over c : Int} (ho : over ≠ 0) (h : numR l most over = .error c) : c ≠ 0 := by
  unfold numR at h
  cases hr : rdv 0 0 l with
  | error x => rw [hr] at h; injection h with h; subst h; exact rdv_err l 0 0 x hr
  | ok nk =>
    obtain ⟨n, k⟩ := nk
    rw [hr] at h
    by_cases hm : n ≤ most
    · simp [hm] at h
    · simp [hm] at h
      rw [← h]
      exact ho

/-- a call that reads: a fault, and it stands; or it took the bytes S -/
def StepOk (b : ByteArray) (p : Nat) (S : List UInt8) (q : Nat) (f : Int) : Prop := (f ≠ 0 ∧ q = p) ∨ (f = 0 ∧ p ≤ q ∧ q ≤ b.size ∧ S = (b.data.toList.drop p).take (q - p))

theorem step_num (b : ByteArray) (p most : Nat) (over : Int) (hp : p ≤ b.size) (ho : over ≠ 0) :
    ∃ (n q : Nat) (f : Int), rdrStep 0 (upR (numR (b.data.toList.drop p) most over)) p 0 = ((n : Int), q, f) ∧ n < 18446744073709551616 ∧ n ≤ most ∧ StepOk b p (vb n) q f := by
  cases hr : upR (numR (b.data.toList.drop p) most over) with
  | error c =>
    have hc : c ≠ 0 := by
      unfold upR at hr
      cases hn : numR (b.data.toList.drop p) most over with
      | error x => rw [hn] at hr; injection hr with hr; subst hr; exact numR_err ho hn
      | ok nk => obtain ⟨n, k⟩ := nk; rw [hn] at hr; cases hr
    exact ⟨0, p, c, rfl, by omega, Nat.zero_le _, .inl ⟨hc, rfl⟩⟩
  | ok vk =>
    obtain ⟨v, k⟩ := vk
    obtain ⟨n, rfl, h1, h2, h3⟩ := back_num hr
    have hle := num_le hp hr
    exact ⟨n, p + k, 0, rfl, h1, h2, .inr ⟨rfl, by omega, hle, by rw [h3, Nat.add_sub_cancel_left]⟩⟩

theorem step_bits (b : ByteArray) (p : Nat) (hp : p ≤ b.size) :
    ∃ (n q : Nat) (f : Int), rdrStep 0 (bitsR (b.data.toList.drop p)) p 0 = ((n : Int), q, f) ∧ n < 18446744073709551616 ∧ StepOk b p (bb n) q f := by
  cases hr : bitsR (b.data.toList.drop p) with
  | error c =>
    have hc : c ≠ 0 := by
      unfold bitsR at hr
      split at hr
      · cases hr
      · injection hr with hr; subst hr; decide
    exact ⟨0, p, c, rfl, by omega, .inl ⟨hc, rfl⟩⟩
  | ok vk =>
    obtain ⟨v, k⟩ := vk
    obtain ⟨n, rfl, h1, h3⟩ := back_bits hr
    have hle := bits_le hp hr
    exact ⟨n, p + k, 0, rfl, h1, .inr ⟨rfl, by omega, hle, by rw [h3, Nat.add_sub_cancel_left]⟩⟩

theorem take_more {l : List UInt8} {p q : Nat} (h : p ≤ q) : l.take p ++ (l.drop p).take (q - p) = l.take q := by
  rw [← List.take_add]
  congr 1
  omega
end Go.Proofs.YtdkencepmdfacaaGreatDoor

namespace Go.Proofs.YtdkencepmdfacaaGreatDoor
open Go.RowKit

structure Mg where
  kind : Int
  sess : Int
  num : Int
  job : Int
  badge : Int
  idx : Int
  cnt : Int
  code : Int
  bits : Int
  text : ByteArray
  prog : ByteArray
deriving DecidableEq

def Mg.none (k : Int) : Mg := ⟨k, 0, 0, 0, 0, 0, 0, 0, 0, ⟨#[]⟩, ⟨#[]⟩⟩

abbrev Mg.cells (m : Mg) : Array Value := #[.int .i64 m.kind, .int .i64 m.sess, .int .i64 m.num, .int .i64 m.job, .int .i64 m.badge, .int .i64 m.idx, .int .i64 m.cnt, .int .i64 m.code, .int .u64 m.bits, .string m.text, .string m.prog]
abbrev Mg.val (m : Mg) : Value := .agg m.cells

/-- its numbers are what the types can hold -/
structure Mg.Fit (m : Mg) : Prop where
  kind : -9223372036854775808 ≤ m.kind ∧ m.kind ≤ 9223372036854775807
  sess : -9223372036854775808 ≤ m.sess ∧ m.sess ≤ 9223372036854775807
  num : -9223372036854775808 ≤ m.num ∧ m.num ≤ 9223372036854775807
  job : -9223372036854775808 ≤ m.job ∧ m.job ≤ 9223372036854775807
  badge : -9223372036854775808 ≤ m.badge ∧ m.badge ≤ 9223372036854775807
  idx : -9223372036854775808 ≤ m.idx ∧ m.idx ≤ 9223372036854775807
  cnt : -9223372036854775808 ≤ m.cnt ∧ m.cnt ≤ 9223372036854775807
  code : -9223372036854775808 ≤ m.code ∧ m.code ≤ 9223372036854775807
  bits : 0 ≤ m.bits ∧ m.bits ≤ 18446744073709551615
  text : m.text.size < 1073741824
  prog : m.prog.size < 1073741824

/-- the fields: a whole number (at the cell k) from lo to hi, a text (9: Text, 10: Program) of lo to hi bytes, the result -/
inductive Fd where
  | whole (k : Nat) (lo hi : Int)
  | text (k : Nat) (lo hi : Int)
  | result
deriving DecidableEq

def Mg.int (m : Mg) : Nat → Int
  | 1 => m.sess
  | 2 => m.num
  | 3 => m.job
  | 4 => m.badge
  | 5 => m.idx
  | _ => m.cnt
def Mg.str (m : Mg) : Nat → ByteArray
  | 9 => m.text
  | _ => m.prog
def Mg.setInt (m : Mg) (x : Int) : Nat → Mg
  | 1 => { m with sess := x }
  | 2 => { m with num := x }
  | 3 => { m with job := x }
  | 4 => { m with badge := x }
  | 5 => { m with idx := x }
  | _ => { m with cnt := x }
def Mg.setStr (m : Mg) (x : ByteArray) : Nat → Mg
  | 9 => { m with text := x }
  | _ => { m with prog := x }

/-- a float's bits with one NaN -/
def canon (a : Int) : Int := if 9218868437227405312 < a % 9223372036854775808 then 9221120237041090561 else a

def Fd.may (f : Fd) (m : Mg) : Bool :=
  match f with
  | .whole k lo hi => decide (lo ≤ m.int k) && decide (m.int k ≤ hi)
  | .text k lo hi => decide (lo ≤ (m.str k).size) && decide (((m.str k).size : Int) ≤ hi)
  | .result => decide (m.code = 0) && decide (canon m.bits = m.bits) || decide (0 < m.code) && decide (m.code ≤ 7) && decide (m.bits = 0)

def Fd.lay (f : Fd) (m : Mg) : List UInt8 :=
  match f with
  | .whole k _ _ => vb (m.int k).toNat
  | .text k _ _ => tb (m.str k).data.toList
  | .result => vb m.code.toNat ++ bb m.bits.toNat

/-- a reader that stands at p with the fault e, and a message under way: behind the field -/
def Fd.read (f : Fd) (b : ByteArray) (s : Mg × Nat × Int) : Mg × Nat × Int :=
  match f with
  | .whole k _ _ =>
    let r := rdrStep 0 (upR (numR (b.data.toList.drop s.2.1) 1099511627776 21)) s.2.1 s.2.2
    (s.1.setInt r.1 k, r.2)
  | .text k _ hi =>
    let r := rdrStep ⟨#[]⟩ (textR (b.data.toList.drop s.2.1) hi.toNat) s.2.1 s.2.2
    (s.1.setStr r.1 k, r.2)
  | .result =>
    let r := rdrStep 0 (upR (numR (b.data.toList.drop s.2.1) 7 21)) s.2.1 s.2.2
    let q := rdrStep 0 (bitsR (b.data.toList.drop r.2.1)) r.2.1 r.2.2
    ({ s.1 with code := r.1, bits := q.1 }, q.2)

abbrev fS : Fd := .whole 1 1 1099511627776
abbrev fN : Fd := .whole 2 1 1099511627776
abbrev fJ : Fd := .whole 3 1 8
abbrev fB : Fd := .whole 4 1 1099511627776
abbrev fI (most : Int) : Fd := .whole 5 0 most
abbrev fC (most : Int) : Fd := .whole 6 0 most
abbrev fT : Fd := .text 9 0 32
abbrev fP : Fd := .text 10 1 1024

/-- the fields of a kind, in the order of their bytes -/
def fieldsOf (kind : Nat) : List Fd :=
  match kind with
  | 1 => []
  | 3 => [fS, fN, fB]
  | 4 => [fS, fN, fB, fC 32, .result]
  | 5 => [fB, fI 31, fT]
  | 6 => [fJ, fB, fI 16, fT]
  | 7 => [fS]
  | 9 => [fS, fN, fJ, fB, fP]
  | 14 => [fB, fC 32]
  | 15 => [fJ, fB, fC 17]
  | 16 => [fJ, fB]
  | _ => [fS, fN]

/-- which fields a kind names, as letters -/
def wordOf (kind : Nat) : List UInt8 :=
  match kind with
  | 2 => [115, 110]
  | 3 => [115, 110, 98]
  | 4 => [115, 110, 98, 99, 114]
  | 5 => [98, 105, 116]
  | 6 => [106, 98, 105, 116]
  | 7 => [115]
  | 8 => [115, 110]
  | 9 => [115, 110, 106, 98, 112]
  | 10 => [115, 110]
  | 11 => [115, 110]
  | 12 => [115, 110]
  | 13 => [115, 110]
  | 14 => [98, 99]
  | 15 => [106, 98, 99]
  | 16 => [106, 98]
  | _ => []

/-- n with a field of m -/
def Mg.with1 (m : Mg) (n : Mg) (c : UInt8) : Mg :=
  match c.toNat with
  | 115 => { n with sess := m.sess }
  | 110 => { n with num := m.num }
  | 106 => { n with job := m.job }
  | 98 => { n with badge := m.badge }
  | 105 => { n with idx := m.idx }
  | 99 => { n with cnt := m.cnt }
  | 114 => { n with code := m.code, bits := m.bits }
  | 116 => { n with text := m.text }
  | 112 => { n with prog := m.prog }
  | _ => n

/-- a message with just the fields that its kind names -/
def Mg.named (m : Mg) : Mg := (wordOf m.kind.toNat).foldl m.with1 (Mg.none m.kind)

/-- may a message be? -/
def Mg.check (m : Mg) : Int :=
  if m.kind < 1 ∨ 16 < m.kind then 70
  else if m.named = m ∧ ¬ (m.kind = 6 ∧ m.idx = 0 ∧ m.text ≠ ⟨#[]⟩) ∧ (fieldsOf m.kind.toNat).all (fun f => f.may m) = true then 0 else 71

/-- its bytes -/
def Mg.bytes (m : Mg) : List UInt8 := vb m.kind.toNat ++ ((fieldsOf m.kind.toNat).map fun f => f.lay m).flatten

/-- the kind, and then the fields one by one -/
def readKind (b : ByteArray) : Mg × Nat × Int :=
  let r := rdrStep (0 : Int) (upR (numR (b.data.toList.drop 0) 16 21)) 0 0
  (Mg.none r.1, r.2)
def readAll (b : ByteArray) : Mg × Nat × Int := (fieldsOf (readKind b).1.kind.toNat).foldl (fun s f => f.read b s) (readKind b)

/-- the message of bytes -/
def decode (b : ByteArray) : Mg × Int :=
  if 2048 < b.size then (Mg.none 0, 73) else
  let s := readAll b
  if endE b s.2.1 s.2.2 ≠ 0 ∨ s.1.check ≠ 0 then (Mg.none 0, 72) else (s.1, 0)

end Go.Proofs.YtdkencepmdfacaaGreatDoor
