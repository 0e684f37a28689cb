/- The plain functions that layer 2's Go functions compute: no program in sight. Lemmas that name no program: rows of the call's own, bytes and strings, what a call leaves as it was. Rows of the program's table of types. pack.Num and its reference: the form of a number. (*pack.Reader).take: so many bytes, or the panic that says they lack. (*pack.Reader).number: the next number, or the panic that says why there is none. A deferred function whose first operation is recover(): behind it the plain walk goes on. pack.face: a call that reads; what it gives up with is the fault. The deferred function, and face at its three types. The function literals that pack's faces hand to face, and what they lean on. The literal of Bits: eight bytes as a number. The literal of Text: strings.Clone, and a text of so many bytes. The reader's methods: what each answers and leaves. The reader's small methods: Read, At, Left, Fault, End, Clone. -/
import Derived.WalkKit
import Derived.WalkSpells
import Derived.WalkLawsBesides
import Derived.Lib.Hide
import Derived.Deep.Draws
import Derived.Maps.AppendAt
import Derived.Deep.AppendLies
import Derived.Laws.BytesArg
import Derived.Lib.AppendStr
import Derived.Test.YtdkencepmdfacaaGreatDoorProg
import Derived.Deep.QuietTactic
import Derived.BigQuiet
import Derived.Laws.BitsAllLaws
import Derived.Recover
import Derived.Deep.RegionHeld3
import Derived.Lib.Strings
import Derived.Lib.BufferWrite
import Derived.Lib.UnsafeStr
import Derived.Laws.MakeOwn
set_option maxRecDepth 100000
namespace Go.Proofs.YtdkencepmdfacaaGreatDoor

/-- a byte as a value -/
def B (c : UInt8) : Value := .int .u8 (c.toNat : Int)

theorem B_of (k : Nat) (h : k < 256) : Value.int .u8 (k : Int) = B (UInt8.ofNat k) := by
  unfold B
  rw [UInt8.toNat_ofNat']
  congr 2
  omega

/-- a text of bytes -/
def str (l : List UInt8) : ByteArray := ⟨l.toArray⟩

theorem str_size (l : List UInt8) : (str l).size = l.length := by simp [str, ByteArray.size]

/-- the form of a number, as bytes -/
def vb (n : Nat) : List UInt8 := if n < 128 then [UInt8.ofNat n] else UInt8.ofNat (n % 128 + 128) :: vb (n / 128)
decreasing_by omega

theorem vb_lt {n : Nat} (h : n < 128) : vb n = [UInt8.ofNat n] := by rw [vb, if_pos h]
theorem vb_ge {n : Nat} (h : ¬ n < 128) : vb n = UInt8.ofNat (n % 128 + 128) :: vb (n / 128) := by rw [vb, if_neg h]

theorem vb_len : ∀ (k n : Nat), n < 128 ^ (k + 1) → (vb n).length ≤ k + 1
  | 0, n, h => by rw [vb_lt (by simpa using h)]; simp
  | k + 1, n, h => by
    by_cases hn : n < 128
    · rw [vb_lt hn]; simp
    · rw [vb_ge hn]
      have := vb_len k (n / 128) (by rw [Nat.div_lt_iff_lt_mul (by omega)]; rw [Nat.pow_succ] at h; exact h)
      simp only [List.length_cons]
      omega

theorem vb_len10 (n : Nat) (h : n < 18446744073709551616) : (vb n).length ≤ 10 := vb_len 9 n (Nat.lt_trans h (by decide))

/-- the form of 64 bits -/
def bb (n : Nat) : List UInt8 := (List.range 8).map fun i => UInt8.ofNat (n / 2 ^ (56 - 8 * i) % 256)

theorem bb_len (n : Nat) : (bb n).length = 8 := by simp [bb]

/-- bytes, the highest first, as a number -/
def bitsOf (l : List UInt8) : Nat := l.foldl (fun n c => n * 256 + c.toNat) 0

theorem bitsOf_snoc (l : List UInt8) (c : UInt8) : bitsOf (l ++ [c]) = bitsOf l * 256 + c.toNat := by simp [bitsOf]
theorem bitsOf_take {l : List UInt8} {k : Nat} (h : k < l.length) : bitsOf (l.take (k + 1)) = bitsOf (l.take k) * 256 + (l[k]).toNat := by
  rw [List.take_succ_eq_append_getElem h, bitsOf_snoc]
theorem bitsOf_lt : ∀ (k : Nat) (l : List UInt8), bitsOf (l.take k) < 256 ^ k
  | 0, l => by simp [bitsOf]
  | k + 1, l => by
    have ih := bitsOf_lt k l
    by_cases h : k < l.length
    · rw [bitsOf_take h, Nat.pow_succ]
      have := (l[k]).toNat_lt
      omega
    · rw [List.take_of_length_le (by omega), ← List.take_of_length_le (show l.length ≤ k by omega), Nat.pow_succ]
      omega

/-- a number read: its value and how many bytes it took, or what is wrong (i bytes are read) -/
def rdv (i acc : Nat) : List UInt8 → Except Int (Nat × Nat)
  | [] => if i < 10 then .error 20 else .error 22
  | c :: t => if 10 ≤ i then .error 22 else
    if 128 ≤ c.toNat then rdv (i + 1) (acc + c.toNat % 128 * 128 ^ i) t
    else if (0 < i ∧ c.toNat = 0) ∨ (i = 9 ∧ 1 < c.toNat) then .error 22 else .ok (acc + c.toNat * 128 ^ i, i + 1)

theorem rdv_ten (acc : Nat) (l : List UInt8) : rdv 10 acc l = .error 22 := by cases l <;> simp [rdv]

theorem rdv_short {i acc : Nat} {l : List UInt8} (hi : i < 10) (hl : l.length ≤ i) : rdv i acc (l.drop i) = .error 20 := by
  rw [List.drop_of_length_le hl]; simp [rdv, hi]

theorem rdv_more {i acc : Nat} {l : List UInt8} (hi : i < 10) (hl : i < l.length) (hc : 128 ≤ (l[i]).toNat) :
    rdv i acc (l.drop i) = rdv (i + 1) (acc + (l[i]).toNat % 128 * 128 ^ i) (l.drop (i + 1)) := by
  rw [List.drop_eq_getElem_cons hl, rdv, if_neg (by omega), if_pos hc]

theorem rdv_form {i acc : Nat} {l : List UInt8} (hi : i < 10) (hl : i < l.length) (hc : (l[i]).toNat < 128) (hb : (0 < i ∧ (l[i]).toNat = 0) ∨ (i = 9 ∧ 1 < (l[i]).toNat)) :
    rdv i acc (l.drop i) = .error 22 := by
  rw [List.drop_eq_getElem_cons hl, rdv, if_neg (by omega), if_neg (by omega), if_pos hb]

theorem rdv_ok {i acc : Nat} {l : List UInt8} (hi : i < 10) (hl : i < l.length) (hc : (l[i]).toNat < 128) (hb : ¬ ((0 < i ∧ (l[i]).toNat = 0) ∨ (i = 9 ∧ 1 < (l[i]).toNat))) :
    rdv i acc (l.drop i) = .ok (acc + (l[i]).toNat * 128 ^ i, i + 1) := by
  rw [List.drop_eq_getElem_cons hl, rdv, if_neg (by omega), if_neg (by omega), if_neg hb]

theorem rdv_len : ∀ (l : List UInt8) (i acc n k : Nat), rdv i acc l = .ok (n, k) → i < k ∧ k ≤ i + l.length ∧ k ≤ 10
  | [], i, acc, n, k, h => by
    unfold rdv at h
    split at h <;> cases h
  | c :: t, i, acc, n, k, h => by
    unfold rdv at h
    split at h
    · cases h
    · rename_i h10
      split at h
      · have := rdv_len t (i + 1) _ n k h
        simp only [List.length_cons]
        omega
      · split at h
        · cases h
        · injection h with h
          injection h with h1 h2
          simp only [List.length_cons]
          omega

/-- .. at most so great; else it is 'over' -/
def numR (l : List UInt8) (most : Nat) (over : Int) : Except Int (Nat × Nat) :=
  match rdv 0 0 l with
  | .error x => .error x
  | .ok (n, k) => if n ≤ most then .ok (n, k) else .error over

theorem numR_rdv {l : List UInt8} {most n k : Nat} {over : Int} (h : numR l most over = .ok (n, k)) : rdv 0 0 l = .ok (n, k) ∧ n ≤ most := by
  unfold numR at h
  cases hr : rdv 0 0 l with
  | error c => rw [hr] at h; cases h
  | ok v =>
    obtain ⟨m, j⟩ := v
    rw [hr] at h
    by_cases hm : m ≤ most
    · simp [hm] at h
      obtain ⟨rfl, rfl⟩ := h
      exact ⟨rfl, hm⟩
    · simp [hm] at h

theorem numR_len {l : List UInt8} {most n k : Nat} {over : Int} (h : numR l most over = .ok (n, k)) : 0 < k ∧ k ≤ l.length ∧ k ≤ 10 := by
  have := rdv_len l 0 0 n k (numR_rdv h).1
  omega

end Go.Proofs.YtdkencepmdfacaaGreatDoor

namespace Go.Proofs.YtdkencepmdfacaaGreatDoor
open Go.RowKit

theorem own_below {w w' : World} {base : Nat} {e : TypeId} {size : Nat} {v : Value} {n : Nat} {xs : List Value} (h : w.ownsRow base e size v n xs) (hg : w.grownBy w' v.ownBlock) (hb : base ≤ w.heap.size) : Below base w w' :=
  (Below.refl base w).grown hg hb fun k hk => (h.lt k hk).1

section
variable {a b c w : World}
theorem only_refl (a : World) (row : Option Nat) : a.grownBy a row := World.grownBy.refl a row
theorem only_trans {row : Option Nat} (h : a.grownBy b row) (k : b.grownBy c row) : a.grownBy c row :=
  ⟨k.os.trans h.os, k.tape.trans h.tape, k.output.trans h.output, Nat.le_trans h.size k.size, fun i hi hne => (k.block i (Nat.lt_of_lt_of_le hi h.size) hne).trans (h.block i hi hne)⟩
theorem only_drewN {row : Option Nat} (h : a.grownBy w row) (n : Nat) : a.grownBy (w.drewN n) row := ⟨h.os, h.tape, h.output, h.size, h.block⟩
theorem only_alloc {row : Option Nat} (h : a.grownBy w row) (o : Obj) : a.grownBy (w.alloc o) row :=
  ⟨h.os, h.tape, h.output, Nat.le_trans h.size (by simp), fun i hi hne => (Below.heap_alloc w o i (Nat.lt_of_lt_of_le hi h.size)).trans (h.block i hi hne)⟩
theorem only_set {g : Nat} (h : a.grownBy w (some g)) {p : Addr} (hp : p.block = g ∨ a.heap.size ≤ p.block) (u : Value) : a.grownBy (w.setCell p u) (some g) :=
  ⟨h.os, h.tape, h.output, by simpa [World.setCell] using h.size, fun i hi hne => (Below.heap_setCell w p u i (by
    rintro rfl
    rcases hp with hp | hp
    · exact hne (by rw [hp])
    · omega)).trans (h.block i hi hne)⟩
theorem only_of_below (h : Below a.heap.size a w) (row : Option Nat) : a.grownBy w row := ⟨h.os, h.tape, h.output, h.size, fun i hi _ => h.block i hi⟩
theorem below_drewN {B : Nat} (h : Below B a w) (n : Nat) : Below B a (w.drewN n) := ⟨h.os, h.tape, h.output, h.size, h.block⟩
end

/-- w' is w with new blocks, and with the blocks of S turned -/
structure Turns (S : List Nat) (w w' : World) : Prop where
  os : w'.os = w.os
  tape : w'.tape = w.tape
  output : w'.output = w.output
  size : w.heap.size ≤ w'.heap.size
  block : ∀ k, k < w.heap.size → k ∉ S → w'.heap[k]? = w.heap[k]?

section
variable {a b c w : World} {S : List Nat}
theorem Turns.refl (S : List Nat) (a : World) : Turns S a a := ⟨rfl, rfl, rfl, Nat.le_refl _, fun _ _ _ => rfl⟩
theorem Turns.trans (h : Turns S a b) (k : Turns S b c) : Turns S a c :=
  ⟨k.os.trans h.os, k.tape.trans h.tape, k.output.trans h.output, Nat.le_trans h.size k.size, fun i hi hn => (k.block i (Nat.lt_of_lt_of_le hi h.size) hn).trans (h.block i hi hn)⟩
theorem Turns.mono {S' : List Nat} (h : Turns S a b) (hS : ∀ x, x ∈ S → x ∈ S' ∨ a.heap.size ≤ x) : Turns S' a b :=
  ⟨h.os, h.tape, h.output, h.size, fun i hi hn => h.block i hi fun hm => by
    rcases hS i hm with hx | hx
    · exact hn hx
    · omega⟩
theorem Turns.drewN (h : Turns S a w) (n : Nat) : Turns S a (w.drewN n) := ⟨h.os, h.tape, h.output, h.size, h.block⟩
theorem Turns.drew (h : Turns S a w) : Turns S a w.drew := ⟨h.os, h.tape, h.output, h.size, h.block⟩
theorem Turns.alloc (h : Turns S a w) (o : Obj) : Turns S a (w.alloc o) :=
  ⟨h.os, h.tape, h.output, Nat.le_trans h.size (by simp), fun i hi hn => (Below.heap_alloc w o i (Nat.lt_of_lt_of_le hi h.size)).trans (h.block i hi hn)⟩
theorem Turns.set (h : Turns S a w) {p : Addr} (hp : p.block ∈ S ∨ a.heap.size ≤ p.block) (u : Value) : Turns S a (w.setCell p u) :=
  ⟨h.os, h.tape, h.output, by simpa [World.setCell] using h.size, fun i hi hn => (Below.heap_setCell w p u i (by
    rintro rfl
    rcases hp with hp | hp
    · exact hn hp
    · omega)).trans (h.block i hi hn)⟩
theorem Turns.of_below (h : Below a.heap.size a w) : Turns S a w := ⟨h.os, h.tape, h.output, h.size, fun i hi _ => h.block i hi⟩
theorem Turns.of_only {g : Nat} (h : a.grownBy w (some g)) : Turns [g] a w := ⟨h.os, h.tape, h.output, h.size, fun i hi hn => h.block i hi (by intro e; injection e with e; exact hn (by simp [e]))⟩
theorem Turns.only {g : Nat} (h : Turns [g] a w) : a.grownBy w (some g) := ⟨h.os, h.tape, h.output, h.size, fun i hi hn => h.block i hi (by intro e; simp at e; exact hn (by rw [e]))⟩
theorem Turns.below {B : Nat} (h : Turns S a w) (hB : B ≤ a.heap.size) (hS : ∀ x, x ∈ S → B ≤ x) : Below B a w :=
  ⟨h.os, h.tape, h.output, h.size, fun i hi => h.block i (by omega) fun hm => by have := hS i hm; omega⟩
/-- a block that is not among S is as it was -/
theorem Turns.keep {g : Nat} {o : Obj} (h : Turns S a w) (hg : a.heap[g]? = some o) (hn : g ∉ S) : w.heap[g]? = some o := (h.block g (lt_of_block hg) hn).trans hg
end

/-- what the call owns stays owned where nothing that was there has turned -/
theorem own_kept {w w' : World} {base : Nat} {e : TypeId} {size : Nat} {v : Value} {n : Nat} {xs : List Value} (h : w.ownsRow base e size v n xs) (hb : Below w.heap.size w w') : w'.ownsRow base e size v n xs := by
  refine h.kept (only_of_below hb none) ?_
  cases v.ownBlock with
  | none => exact .inl rfl
  | some g => exact .inr (by simp)

/-- append(s, u): u lies in the newest block, a row of the call's own grows by one -/
theorem wpList_append_one {P : Program} {w : World} {ops : Array Oper} {rest : List Oper} {o : Oper} {a : Act} {Q : Exit → Act → World → Prop} (hgd : o.guard = none) (s x : Operand) (t : TypeId)
    (ho : o.op = .call { callee := .builtin .append, args := #[s, x], argTypes := #[t, t] })
    (base : Nat) (e : TypeId) (i : TypeInfo) (z : Value) (bytes : Nat) (ht : P.underlying t = some (.slice e)) (hi : P.info? e = some i) (hz : i.zero = some z)
    (hsize : i.size = 1) (hby : i.bytes = bytes) (hzs : z.cells.size = 1)
    (v : Value) (n : Nat) (xs : List Value) (hs : a.eval s = v) (hown : w.ownsRow base e 1 v n xs) (u : Value) (h1 : u.oneCell' = true)
    (hx : a.eval x = .slice (some ⟨w.heap.size, 0, none⟩) 1 1) (hn : n < 1073741824) (hbytes : bytes ≤ 4096) (hbase : base ≤ w.heap.size)
    (h : ∀ v' w', w'.ownsRow base e 1 v' (n + 1) (xs ++ [u]) → Below base w w' → w.grownBy w' v.ownBlock → wpList P ops Q rest (a.put o.dst v') w') :
    wpList P ops Q (o :: rest) a (w.alloc (.cells #[u] e)) := by
  refine wpList_append_own (w := w.alloc (.cells #[u] e)) hgd s x t ho base e i z 1 bytes ht hi hz hsize hby hzs (by omega) v n xs hs (hown.alloc _) ⟨w.heap.size, 0, none⟩ 1 1 [u] hx rfl ?_ ?_ ?_ ?_ ?_ ?_
  · exact cell_one_new _ _ _
  · intro y hy
    simp at hy
    subst hy
    exact h1
  · unfold maxLen; omega
  · calc (n + 1) * bytes ≤ 1073741824 * 4096 := Nat.mul_le_mul (by omega) hbytes
      _ ≤ _ := by decide
  · simp; omega
  · intro v' w' ho' hg _
    have hg0 : w.grownBy w' v.ownBlock := by
      have ha := World.grownBy_alloc w (.cells #[u] e) v.ownBlock
      exact ⟨hg.os.trans ha.os, hg.tape.trans ha.tape, hg.output.trans ha.output, Nat.le_trans ha.size hg.size, fun k hk hne => (hg.block k (Nat.lt_of_lt_of_le hk ha.size) hne).trans (ha.block k hk hne)⟩
    exact h v' w' ho' (own_below hown hg0 hbase) hg0

/-- string(b) of a row of the call's own -/
theorem run_convert_own {P : Program} {w : World} {src dst e : TypeId} (hs : P.underlying src = some (.slice e)) (he : P.underlying e = some (.int .u8)) (hd : P.underlying dst = some .string)
    {base : Nat} {v : Value} {n : Nat} {l : List UInt8} (hown : w.ownsRow base e 1 v n (l.map B)) : (convert src dst v).run P w = .ok (.string (str l)) w := by
  rcases hown.2 with ⟨rfl, hn⟩ | ⟨g, cap, cur, rfl, hg, hh, hnc, _, hsz, hx⟩
  · have hl : l = [] := by
      have := hown.1
      subst hn
      simpa using this
    subst hl
    exact run_convert_bytes_nil w src e hs he 0 0 dst hd
  · have hlen : l.length = n := by simpa using hown.1
    have hm : strOfNums (l.map fun c => (c.toNat : Int)) = str l := by
      unfold strOfNums str
      rw [List.map_map]
      congr 2
      rw [List.map_congr_left (g := id) (fun c _ => by simp), List.map_id]
    rw [← hm]
    refine run_convert_bytes_arg w src e hs he g 0 n cap (l.map fun c => (c.toNat : Int)) (by simpa using hlen) (fun i hi => ?_) dst hd
    have hc := hown.cellAt i (by omega)
    rw [Nat.zero_add, hc]
    simp [List.getElem?_map, List.getElem?_eq_getElem (show i < l.length by omega), B]

/-- []byte(s) -/
theorem run_bytes_of {P : Program} (w : World) (src dst e : TypeId) (s : ByteArray) (hs : P.underlying src = some .string) (hd : P.underlying dst = some (.slice e)) (he : P.underlying e = some (.int .u8)) :
    ∃ cap w', (convert src dst (.string s)).run P w = .ok (.slice (some ⟨w.heap.size, 0, none⟩) s.size cap) w' ∧ (∀ j c, s.data.toList[j]? = some c → w'.cell? ⟨w.heap.size, j, none⟩ = some (B c)) ∧ Below w.heap.size w w' := by
  refine ⟨_, _, run_bytes_of_string w src dst e s hs hd he, fun j c hj => ?_, ((Below.refl _ w).drew.alloc (Nat.le_refl _) _)⟩
  rw [Array.getElem?_toList] at hj
  obtain ⟨hlt, hc⟩ := Array.getElem?_eq_some_iff.1 hj
  have h := World.cell?_alloc_mark w.drew (bytesRow s (grownCap w s.size 0 e)) e ((bytesRow s (grownCap w s.size 0 e)).size, (bytesRow s (grownCap w s.size 0 e)).size + 1) j
  refine h.trans ?_
  rw [bytesRow_at s _ j hlt, hc]
  rfl

/-- a slice that came in: n elements of so many cells each, C its cells -/
def Sl (w : World) (B size : Nat) (A : Option Addr) (n : Nat) (C : Nat → Value) : Prop :=
  0 < n → ∃ b off, A = some ⟨b, off, none⟩ ∧ b < B ∧ ∀ j, j < n * size → w.cell? ⟨b, off + j, none⟩ = some (C j)

section
variable {w w' : World} {B size n : Nat} {A : Option Addr} {C : Nat → Value}
theorem Sl.more {B' : Nat} (h : Sl w B size A n C) (hB : B ≤ B') : Sl w B' size A n C := fun hn => by
  obtain ⟨b, off, e, hlt, hc⟩ := h hn
  exact ⟨b, off, e, by omega, hc⟩
theorem Sl.below (h : Sl w B size A n C) (hb : Below B w w') : Sl w' B size A n C := fun hn => by
  obtain ⟨b, off, e, hlt, hc⟩ := h hn
  exact ⟨b, off, e, hlt, fun j hj => (hb.cell (p := ⟨b, off + j, none⟩) hlt).trans (hc j hj)⟩
end

end Go.Proofs.YtdkencepmdfacaaGreatDoor

namespace Go.Proofs.YtdkencepmdfacaaGreatDoor
theorem Tryz.info5 : (Tryz.prog.info? 5).map (fun i => (i.zero, i.size, i.bytes)) = some (some (.int .u8 0), 1, 1) := by kernel_rfl
end Go.Proofs.YtdkencepmdfacaaGreatDoor

namespace Go.Proofs.YtdkencepmdfacaaGreatDoor
open Go.RowKit

theorem conv_own {w : World} {base : Nat} {v : Value} {n : Nat} {l : List UInt8} (hown : w.ownsRow base 5 1 v n (l.map B)) : (convert 43 9 v).run Tryz.prog w = .ok (.string (str l)) w :=
  run_convert_own Tryz.underlying43 Tryz.underlying5 Tryz.underlying9 hown

theorem num_byte (m : Nat) : Value.int .u8 (bits .or .u8 ((m : Int) % 256) 128) = B (UInt8.ofNat (m % 128 + 128)) := by
  rw [← B_of _ (by omega)]
  have h := u8_or_nat (m % 256) 128 (by omega) (by omega)
  have e : m % 256 ||| 128 = m % 128 + 128 := by
    have h1 : (m % 256) = 128 * (m % 256 / 128) + m % 128 := by omega
    have h2 : m % 256 / 128 = 0 ∨ m % 256 / 128 = 1 := by omega
    have key : ∀ x, x < 128 → x ||| 128 = x + 128 ∧ (128 + x) ||| 128 = x + 128 := by decide +kernel
    rcases h2 with h2 | h2 <;> rw [h1, h2]
    · simpa using (key (m % 128) (by omega)).1
    · simpa using (key (m % 128) (by omega)).2
  rw [e] at h
  rw [← h]
  rfl

/-- after a round -/
theorem num_next {w1 : World} {base m n k : Nat} {l : List UInt8} {v : Value} {x : Value} (hl : l ++ vb m = vb n) (hm : ¬ m < 128) (hx : x = B (UInt8.ofNat (m % 128 + 128)))
    (ho : w1.ownsRow base 5 1 v (k + 1) (l.map B ++ [x])) (hk : k = l.length) :
    (l ++ [UInt8.ofNat (m % 128 + 128)]) ++ vb (m / 128) = vb n ∧ w1.ownsRow base 5 1 v (l ++ [UInt8.ofNat (m % 128 + 128)]).length ((l ++ [UInt8.ofNat (m % 128 + 128)]).map B) := by
  subst hk
  constructor
  · rw [← hl, vb_ge hm]; simp
  · simpa [hx] using ho

theorem num_room {l : List UInt8} {m n : Nat} (hl : l ++ vb m = vb n) (hn : n < 18446744073709551616) : l.length ≤ 10 := by
  have h1 := congrArg List.length hl
  have h2 := vb_len10 n hn
  simp only [List.length_append] at h1
  omega

theorem num_last {w1 : World} {base m n : Nat} {l : List UInt8} {v : Value} (hl : l ++ vb m = vb n) (hm : m < 128)
    (ho : w1.ownsRow base 5 1 v (l.length + 1) (l.map B ++ [.int .u8 (m : Int)])) : (convert 43 9 v).run Tryz.prog w1 = .ok (.string (str (vb n))) w1 := by
  have e : vb n = l ++ [UInt8.ofNat m] := by rw [← hl, vb_lt hm]
  refine e ▸ conv_own (base := base) (n := l.length + 1) ?_
  simpa [B_of m (by omega)] using ho

set_option maxHeartbeats 400000 in
theorem Num_any (n : Nat) (w : World) (hn : n < 18446744073709551616) :
    Calls Tryz.prog 131 #[.int .u64 n] w fun e w' => e = .returned (.string (str (vb n))) ∧ Below w.heap.size w w' := by
  obtain ⟨i0, hi, hz0, hz1, hz2⟩ := info_parts Tryz.info5
  go_enter Tryz.func131, Tryz.ntmps131
  go_wp2
  go_loopw [0, 3] (fun x b wr => ∃ (m : Nat) (l : List UInt8), m ≤ n ∧ x = .int .u64 m ∧ l ++ vb m = vb n ∧ wr.ownsRow w.heap.size 5 1 b l.length (l.map B) ∧ Below w.heap.size w wr)
    (fun x _ _ => (intOf x).toNat)
  case atStart => exact ⟨n, [], Nat.le_refl _, rfl, rfl, World.ownsRow_nil _ _ _ _, Below.refl _ _⟩
  case round =>
    obtain ⟨m, l, hm, rfl, hl, hown, hb⟩ := hrel
    have hlen := num_room hl hn
    have HL := Lib.hid hl
    clear hl
    have hz := hb.size
    by_cases h : (127 : Int) < m
    · go_wp2_with (at_builtin; refine wpList_append_one rfl (.tmp 8) (.tmp 12) 43 rfl w.heap.size 5 i0 (.int .u8 0) 1 Tryz.underlying43 hi hz0 hz1 hz2 rfl _ _ _ rfl hown _ rfl rfl (by omega) (by decide) hz ?_; intro v' w1 ho1 hb1 hg1)
      have R := num_next HL.out (by omega) (num_byte m) ho1 rfl
      refine ⟨⟨m / 128, _, by omega, by go_num, R.1, R.2, hb.trans hb1⟩, by simp [intOf]; omega⟩
    · go_wp2_with (at_builtin; refine wpList_append_one rfl (.tmp 14) (.tmp 17) 43 rfl w.heap.size 5 i0 (.int .u8 0) 1 Tryz.underlying43 hi hz0 hz1 hz2 rfl _ _ _ rfl hown _ rfl rfl (by omega) (by decide) hz ?_; intro v' w1 ho1 hb1 hg1; have hcv := num_last HL.out (by omega) ho1)
      go_ret
      exact ⟨rfl, hb.trans hb1⟩
end Go.Proofs.YtdkencepmdfacaaGreatDoor

namespace Go.Proofs.YtdkencepmdfacaaGreatDoor
open Go.RowKit

/-- a reader in memory: its bytes, its place, its fault -/
def Rdr (w : World) (g : Nat) (b : ByteArray) (p : Nat) (e : Int) : Prop :=
  w.heap[g]? = some (.cells #[.string b, .int .i64 (p : Int), .int .i64 e] 133 (0, 0))

section
variable {w w' : World} {g : Nat} {b : ByteArray} {p : Nat} {e : Int}
theorem Rdr.lt (h : Rdr w g b p e) : g < w.heap.size := lt_of_block h
theorem Rdr.c0 (h : Rdr w g b p e) : w.cell? ⟨g, 0, none⟩ = some (.string b) := by unfold Rdr at h; simp [World.cell?, h]
theorem Rdr.c1 (h : Rdr w g b p e) : w.cell? ⟨g, 1, none⟩ = some (.int .i64 (p : Int)) := by unfold Rdr at h; simp [World.cell?, h]
theorem Rdr.c2 (h : Rdr w g b p e) : w.cell? ⟨g, 2, none⟩ = some (.int .i64 e) := by unfold Rdr at h; simp [World.cell?, h]
theorem Rdr.fz (h : Rdr w g b p e) (i : Nat) : w.frozen? ⟨g, i, none⟩ = false := by unfold Rdr at h; simp [World.frozen?, h]
theorem Rdr.set1 (h : Rdr w g b p e) (q : Nat) : Rdr (w.setCell ⟨g, 1, none⟩ (.int .i64 (q : Int))) g b q e := by
  unfold Rdr at h ⊢
  simp [World.setCell, Array.getElem?_modify, h]
theorem Rdr.set2 (h : Rdr w g b p e) (f : Int) : Rdr (w.setCell ⟨g, 2, none⟩ (.int .i64 f)) g b p f := by
  unfold Rdr at h ⊢
  simp [World.setCell, Array.getElem?_modify, h]
theorem Rdr.far (h : Rdr w g b p e) {a : Addr} (ha : g ≠ a.block) (u : Value) : Rdr (w.setCell a u) g b p e := (Below.heap_setCell w a u g ha).trans h
theorem Rdr.alloc (h : Rdr w g b p e) (o : Obj) : Rdr (w.alloc o) g b p e := (Below.heap_alloc w o g h.lt).trans h
theorem Rdr.grown {row : Option Nat} (h : Rdr w g b p e) (hb : w.grownBy w' row) (hg : some g ≠ row) : Rdr w' g b p e := (hb.block g h.lt hg).trans h
theorem Rdr.below {k : Nat} (h : Rdr w g b p e) (hb : Below k w w') (hg : g < k) : Rdr w' g b p e := (hb.block g hg).trans h
theorem Rdr.drewN (h : Rdr w g b p e) (n : Nat) : Rdr (w.drewN n) g b p e := h
theorem Rdr.drew (h : Rdr w g b p e) : Rdr w.drew g b p e := h
end

set_option maxHeartbeats 400000 in
theorem take_ok (g : Nat) (b : ByteArray) (p n : Nat) (e : Int) (w : World) (hR : Rdr w g b p e) (hn : p + n ≤ b.size) (hb : b.size < 4294967296) :
    Calls Tryz.prog 98 #[.pointer (some ⟨g, 0, none⟩), .int .i64 (n : Int)] w fun r w' => r = .returned (.string (b.extract p (p + n))) ∧ Rdr w' g b (p + n) e ∧ w.grownBy w' (some g) := by
  have h0 := hR.c0
  have h1 := hR.c1
  have hf := hR.fz 1
  have hle : ¬ (b.size : Int) - p < n := by omega
  go_enter Tryz.func98, Tryz.ntmps98
  go_wp2
  go_quiet (fail)
  go_wp2
  go_quiet (fail)
  go_wp2
  go_ret
  have e1 : ((p : Int) + n) = ((p + n : Nat) : Int) := by omega
  refine ⟨rfl, ?_, ?_⟩
  · rw [e1]
    exact ((hR.drewN _).set1 _).drewN _
  · exact only_drewN (only_set (only_drewN (only_refl _ _) _) (.inl rfl) _) _

theorem extract_one {b : ByteArray} {p : Nat} {L : List UInt8} {k : Nat} (hL : L = b.data.toList.drop p) (hk : k < L.length) : b.extract (p + k) (p + k + 1) = ⟨#[L[k]]⟩ := by
  subst hL
  apply ByteArray.ext
  apply Array.toList_inj.1
  rw [ByteArray.data_extract, Array.toList_extract]
  simp only [List.length_drop] at hk
  rw [List.extract_eq_take_drop]
  have e : p + k + 1 - (p + k) = 1 := by omega
  rw [e, List.drop_eq_getElem_cons (by omega)]
  simp

/-- what a reader gives up with -/
def gave (x : Int) : List PanicEntry := [{ v := .iface 169 (.agg #[.int .i64 x]), recovered := false }]

set_option maxHeartbeats 400000 in
theorem take_short (g : Nat) (b : ByteArray) (p n : Nat) (e : Int) (w : World) (hR : Rdr w g b p e) (hn : b.size < p + n) (hp : p ≤ b.size) (hb : b.size < 4294967296) (_hs : n < 9223372036854775808) :
    Calls Tryz.prog 98 #[.pointer (some ⟨g, 0, none⟩), .int .i64 (n : Int)] w fun r w' => r = .panicked (gave 20) ∧ Rdr w' g b p e ∧ w.grownBy w' (some g) := by
  have h0 := hR.c0
  have h1 := hR.c1
  have hle : (b.size : Int) - p < n := by omega
  go_enter Tryz.func98, Tryz.ntmps98
  go_wp2
  go_quiet (fail)
  go_wp2
  exact ⟨rfl, rfl, hR.drewN _, only_drewN (only_refl _ _) _⟩
end Go.Proofs.YtdkencepmdfacaaGreatDoor

namespace Go.Proofs.YtdkencepmdfacaaGreatDoor
open Go.RowKit

def NumPost (g : Nat) (b : ByteArray) (p : Nat) (e : Int) (r : Except Int (Nat × Nat)) (w : World) (x : Ending) (w' : World) : Prop :=
  match r with
  | .ok (n, k) => x = .returned (.int .u64 (n : Int)) ∧ Rdr w' g b (p + k) e ∧ w.grownBy w' (some g)
  | .error c => x = .panicked (gave c) ∧ (∃ q, Rdr w' g b q e) ∧ w.grownBy w' (some g)

theorem or_add (a c k : Nat) (ha : a < 128 ^ k) : a ||| c * 128 ^ k = a + c * 128 ^ k := by
  have e : (128 : Nat) ^ k = 2 ^ (7 * k) := by rw [Nat.pow_mul]
  rw [e] at ha ⊢
  rw [Nat.or_comm, Nat.mul_comm c, ← Nat.two_pow_add_eq_or_of_lt ha]
  omega

theorem num_value (k acc c : Nat) (hk : k < 10) (ha : acc < 128 ^ k) (hc : c < 256) (h9 : k < 9 ∨ c ≤ 1) :
    bits .or .u64 (acc : Int) (IntKind.u64.wrap (IntKind.u64.wrap (bits .and .u8 (c : Int) 127) * 2 ^ (7 * k))) = ((acc + c % 128 * 128 ^ k : Nat) : Int) := by
  have e1 : bits .and .u8 (c : Int) 127 = ((c % 128 : Nat) : Int) := by
    have h := u8_and_nat c 127 hc (by omega)
    rw [show c &&& 127 = c % 128 from Nat.and_two_pow_sub_one_eq_mod c 7] at h
    exact h
  have hb : c % 128 * 128 ^ k + 128 ^ k ≤ 18446744073709551616 ∧ c % 128 * 128 ^ k < 18446744073709551616 := by
    match k, hk with
    | 0, _ | 1, _ | 2, _ | 3, _ | 4, _ | 5, _ | 6, _ | 7, _ | 8, _ => constructor <;> omega
    | 9, _ =>
      have : c % 128 ≤ 1 := by omega
      constructor <;> omega
  have e2 : ((c % 128 : Nat) : Int) * 2 ^ (7 * k) = ((c % 128 * 128 ^ k : Nat) : Int) := by
    rw [Int.natCast_mul, show (128 : Nat) ^ k = 2 ^ (7 * k) from by rw [Nat.pow_mul], Int.natCast_pow]
    rfl
  rw [e1, IntWalk.u64_in ((c % 128 : Nat) : Int) (by omega), e2, IntWalk.u64_in ((c % 128 * 128 ^ k : Nat) : Int) (by omega), u64_or_nat _ _ (by omega) (by omega), or_add _ _ _ ha]

theorem acc_lt {k acc c : Nat} (ha : acc < 128 ^ k) : acc + c % 128 * 128 ^ k < 128 ^ (k + 1) := by
  rw [Nat.pow_succ]
  have : c % 128 * 128 ^ k ≤ 127 * 128 ^ k := Nat.mul_le_mul_right _ (by omega)
  omega

theorem numR_ok {l : List UInt8} {most n k : Nat} {over : Int} (h : rdv 0 0 l = .ok (n, k)) (hm : n ≤ most) : numR l most over = .ok (n, k) := by simp [numR, h, hm]
theorem numR_over {l : List UInt8} {most n k : Nat} {over : Int} (h : rdv 0 0 l = .ok (n, k)) (hm : most < n) : numR l most over = .error over := by
  have : ¬ n ≤ most := by omega
  simp [numR, h, this]
theorem numR_bad {l : List UInt8} {most : Nat} {over x : Int} (h : rdv 0 0 l = .error x) : numR l most over = .error x := by simp [numR, h]

section
variable {g : Nat} {b : ByteArray} {p : Nat} {e : Int} {w w' : World} {l : List UInt8} {most : Nat} {over : Int}
theorem post_bad {c : Int} {q : Nat} (h : rdv 0 0 l = .error c) (hR : Rdr w' g b q e) (hg : w.grownBy w' (some g)) : NumPost g b p e (numR l most over) w (.panicked (gave c)) w' := by
  rw [numR_bad h]; exact ⟨rfl, ⟨_, hR⟩, hg⟩
theorem post_over {q n k : Nat} (h : rdv 0 0 l = .ok (n, k)) (hm : most < n) (hR : Rdr w' g b q e) (hg : w.grownBy w' (some g)) : NumPost g b p e (numR l most over) w (.panicked (gave over)) w' := by
  rw [numR_over h hm]; exact ⟨rfl, ⟨_, hR⟩, hg⟩
theorem post_ok {n k : Nat} (h : rdv 0 0 l = .ok (n, k)) (hm : n ≤ most) (hR : Rdr w' g b (p + k) e) (hg : w.grownBy w' (some g)) : NumPost g b p e (numR l most over) w (.returned (.int .u64 (n : Int))) w' := by
  rw [numR_ok h hm]; exact ⟨rfl, hR, hg⟩
end

set_option maxHeartbeats 2000000 in
theorem number_any (g : Nat) (b : ByteArray) (p : Nat) (e : Int) (most : Nat) (over : Int) (w : World) (hR : Rdr w g b p e) (hp : p ≤ b.size) (hb : b.size < 4294967296) (_hm : most < 18446744073709551616) :
    Calls Tryz.prog 93 #[.pointer (some ⟨g, 0, none⟩), .int .u64 (most : Int), .int .i64 over] w (NumPost g b p e (numR (b.data.toList.drop p) most over) w) := by
  obtain ⟨L, hL⟩ : ∃ L, L = b.data.toList.drop p := ⟨_, rfl⟩
  have hLs : L.length = b.size - p := by rw [hL, List.length_drop]; rfl
  have HL := Lib.hid hL
  have HS := Lib.hid hLs
  rw [← hL]
  clear hL hLs
  go_enter Tryz.func93, Tryz.ntmps93
  go_wp2
  go_loopw [7, 10] (fun n i wr => ∃ (k acc : Nat) (x : Int), k ≤ 10 ∧ i = .int .i64 (k : Int) ∧ n = .int .u64 x ∧ Hid (k < 10 → x = acc ∧ acc < 128 ^ k) ∧ k ≤ L.length ∧ Hid (rdv 0 0 L = rdv k acc (L.drop k)) ∧ Rdr wr g b (p + k) e ∧ w.grownBy wr (some g))
    (fun _ i _ => 10 - (intOf i).toNat)
  case atStart => exact ⟨0, 0, 0, by omega, rfl, rfl, fun _ => ⟨rfl, by decide⟩, by omega, rfl, hR, only_refl _ _⟩
  case round =>
    obtain ⟨k, acc, x, hk, rfl, rfl, hacc, hkl, hrd, hRk, hgk⟩ := hrel
    by_cases h10 : k < 10
    · obtain ⟨rfl, ha⟩ := hacc.out h10
      by_cases hlen : k < L.length
      · have hsz : p + k + 1 ≤ b.size := by have := HS.out; omega
        obtain ⟨c, hc⟩ : ∃ c, c = L[k] := ⟨_, rfl⟩
        have hc6 : c.toNat < 256 := c.toNat_lt
        have HC := Lib.hid hc
        have hx1 := extract_one HL.out hlen
        rw [← hc] at hx1
        have HX := Lib.hid hx1
        clear hc hx1
        go_wp2_with fail
        refine (take_ok g b (p + k) 1 e _ hRk hsz hb).mono ?_
        rintro r w1 ⟨rfl, hR1, hg1⟩
        rw [HX.out]
        have hone : ∀ h : 0 < (ByteArray.mk #[c]).size, (ByteArray.mk #[c])[0]'h = c := fun _ => rfl
        have HV : Hid (k < 9 ∨ c.toNat ≤ 1 → _) := num_value k acc c.toNat h10 ha hc6
        by_cases hbig : (127 : Int) < c.toNat
        · go_wp2
          refine ⟨⟨k + 1, acc + c.toNat % 128 * 128 ^ k, _, by omega, by go_num, rfl, fun h => ⟨HV.out (.inl (by omega)), acc_lt ha⟩, by omega, ?_, hR1, only_trans hgk hg1⟩, by simp [intOf]; omega⟩
          have hc := HC.out
          subst hc
          exact hrd.out.trans (rdv_more h10 hlen (by omega))
        · by_cases hbad : (0 < k ∧ c.toNat = 0) ∨ (k = 9 ∧ 1 < c.toNat)
          · have hr : Hid (rdv 0 0 L = .error 22) := hrd.out.trans (rdv_form h10 hlen (by have := HC.out; subst this; omega) (by have := HC.out; subst this; exact hbad))
            rcases hbad with ⟨h1, h2⟩ | ⟨rfl, h2⟩
            · have t1 : (0 : Int) < k := by omega
              have t2 : ((c.toNat : Int) == 0) = true := by simp [h2]
              clear h2
              go_wp2
              all_goals exact ⟨rfl, post_bad hr.out hR1 (only_trans hgk hg1)⟩
            · have t2 : ((c.toNat : Int) == 0) = false := by rw [beq_eq_false_iff_ne]; omega
              have t3 : (1 : Int) < c.toNat := by omega
              go_wp2
              all_goals exact ⟨rfl, post_bad hr.out hR1 (only_trans hgk hg1)⟩
          · have hr : Hid (rdv 0 0 L = .ok (acc + c.toNat * 128 ^ k, k + 1)) := hrd.out.trans (by have := HC.out; subst this; exact rdv_ok h10 hlen (by omega) hbad)
            have h9 : k < 9 ∨ c.toNat ≤ 1 := by omega
            have hv := HV.out h9
            rw [show c.toNat % 128 = c.toNat from by omega] at hv
            obtain ⟨V, hV⟩ : ∃ V, V = acc + c.toNat * 128 ^ k := ⟨_, rfl⟩
            rw [← hV] at hv hr
            clear hV
            have fin : ∀ wx : World, Rdr wx g b (p + k + 1) e → w.grownBy wx (some g) → (most < V → NumPost g b p e (numR L most over) w (.panicked (gave over)) wx) ∧ (V ≤ most → NumPost g b p e (numR L most over) w (.returned (.int .u64 (V : Int))) wx) := fun wx h1 h2 =>
              ⟨fun h => post_over hr.out h h1 h2, fun h => post_ok hr.out h h1 h2⟩
            have F := fin _ hR1 (only_trans hgk hg1)
            have HF := Lib.hid F
            clear fin F
            by_cases hmost : (most : Int) < V
            all_goals rcases (show k < 1 ∨ (0 < k ∧ k < 9) ∨ 8 < k from by omega) with h1 | ⟨h1, h2⟩ | h1
            · have t1 : ¬ (0 : Int) < k := by omega
              have t3 : ((k : Int) == 9) = false := by rw [beq_eq_false_iff_ne]; omega
              go_wp2
              all_goals exact ⟨rfl, HF.out.1 (by omega)⟩
            · have t2 : ((c.toNat : Int) == 0) = false := by rw [beq_eq_false_iff_ne]; omega
              have t3 : ((k : Int) == 9) = false := by rw [beq_eq_false_iff_ne]; omega
              go_wp2
              all_goals exact ⟨rfl, HF.out.1 (by omega)⟩
            · have t2 : ((c.toNat : Int) == 0) = false := by rw [beq_eq_false_iff_ne]; omega
              have t3 : ((k : Int) == 9) = true := by rw [beq_iff_eq]; omega
              have t4 : ¬ (1 : Int) < c.toNat := by omega
              go_wp2
              all_goals exact ⟨rfl, HF.out.1 (by omega)⟩
            · have t1 : ¬ (0 : Int) < k := by omega
              have t3 : ((k : Int) == 9) = false := by rw [beq_eq_false_iff_ne]; omega
              go_wp2
              go_ret
              exact HF.out.2 (by omega)
            · have t2 : ((c.toNat : Int) == 0) = false := by rw [beq_eq_false_iff_ne]; omega
              have t3 : ((k : Int) == 9) = false := by rw [beq_eq_false_iff_ne]; omega
              go_wp2
              go_ret
              exact HF.out.2 (by omega)
            · have t2 : ((c.toNat : Int) == 0) = false := by rw [beq_eq_false_iff_ne]; omega
              have t3 : ((k : Int) == 9) = true := by rw [beq_iff_eq]; omega
              have t4 : ¬ (1 : Int) < c.toNat := by omega
              go_wp2
              go_ret
              exact HF.out.2 (by omega)
      · have hsz : b.size < p + k + 1 := by have := HS.out; omega
        have hpk : p + k ≤ b.size := by have := HS.out; omega
        go_wp2_with fail
        refine (take_short g b (p + k) 1 e _ hRk hsz hpk hb (by omega)).mono ?_
        rintro r w1 ⟨rfl, hR1, hg1⟩
        exact ⟨rfl, post_bad (hrd.out.trans (rdv_short h10 (by omega))) hR1 (only_trans hgk hg1)⟩
    · obtain rfl : k = 10 := by omega
      have hr := hrd.out.trans (rdv_ten _ _)
      go_wp2
      exact ⟨rfl, post_bad hr hRk hgk⟩
end Go.Proofs.YtdkencepmdfacaaGreatDoor

namespace Go.Proofs.YtdkencepmdfacaaGreatDoor
open Go

theorem wpS_region_recover {P : Program} {Q : Exit → Act → List Frame → World → Prop} {a : Act} {cs cs' : List Frame} {w : World} {id : Nat} {ops : Array Oper} {o : Oper} {rest : List Nat} {v : Value}
    (hl : List.range ops.size = 0 :: rest) (ho : ops[0]? = some o) (hw : Region.wanted o (yielded ops a.tmps) = true) (hop : (execOp a.eval o).run P w = .ok .recover w)
    (hrec : recoverD cs = some (v, cs') ∨ (recoverD cs = none ∧ v = .nilIface ∧ cs' = cs))
    (h : wpOps P ops (fun e a w => Q e a cs' w) rest (a.put o.dst v) w) : (Code.region id ops false).wpS P Q a cs w := by
  intro b k hb hro
  obtain ⟨e, a', w', hq, harr⟩ := wp_ops rest _ _ h b k cs'
  refine ⟨e, a', cs', w', hq, .of_steps (.one step_region) ?_⟩
  rw [hl]
  have hg := stepG_op (P := P) (b := b) (k := k) (cs := cs) (w := w) (rest := rest) ho hw
  have hfin : ∀ v, (b.at a (.inRegion ops (0 :: rest) :: k)).finish v = b.at (a.put o.dst v) (.inRegion ops rest :: k) := by
    intro v; rw [Frame.finish_at, ho]; rfl
  have hk : (b.at a (.inRegion ops (0 :: rest) :: k)).kind = .deferred := hb
  have htr := tryRecover_deferred hk cs
  refine .of_steps (.one (step_lone_go ?_)) harr
  rcases hrec with hrec | ⟨hrec, rfl, rfl⟩
  · rw [hg, ← hfin]
    simp only [Frame.at] at htr ⊢
    simp [stepG.apply, hop, htr, hrec]
  · rw [hg, ← hfin]
    simp only [Frame.at] at htr ⊢
    simp [stepG.apply, hop, htr, hrec]

/-- the mode that recover() leaves the frame below in -/
def caught : FrameMode → FrameMode
  | .panicking ({ v, recovered := false, goexit := false } :: older) => .panicking ({ v, recovered := true } :: older)
  | u => u
/-- .. and what it answers -/
def thrown : FrameMode → Value
  | .panicking ({ v, recovered := false, goexit := false } :: _) => v
  | _ => .nilIface

theorem recoverD_caught (c : Frame) (cs : List Frame) :
    recoverD (c :: cs) = some (thrown c.mode, { c with mode := caught c.mode } :: cs) ∨ (recoverD (c :: cs) = none ∧ thrown c.mode = .nilIface ∧ { c with mode := caught c.mode } :: cs = c :: cs) := by
  obtain ⟨fn, tmps, todo, defers, mode, kind, roundOf⟩ := c
  cases mode with
  | run => simp [recoverD, thrown, caught]
  | returning => simp [recoverD, thrown, caught]
  | panicking chain =>
    cases chain with
    | nil => simp [recoverD, thrown, caught]
    | cons x xs =>
      obtain ⟨v, r, g⟩ := x
      cases r <;> cases g <;> simp [recoverD, thrown, caught]

theorem wp_mono2 {P : Program} {o : Oper} {a : Act} {w : World} {K K' : Act → World → Prop} {Q Q' : Exit → Act → World → Prop} (hK : ∀ a w, K a w → K' a w) (hQ : ∀ e a w, Q e a w → Q' e a w)
    (h : o.wp P a w K Q) : o.wp P a w K' Q' := by
  unfold Oper.wp at h ⊢
  generalize (execOp a.eval o).run P w = r at h ⊢
  cases r with
  | halt x w' => cases x <;> first | exact hQ _ _ _ h | exact h.elim
  | ok x w' =>
    cases x with
    | value v => exact hK _ _ h
    | skip => exact hK _ _ h
    | defer d => exact hK _ _ h
    | enter f args =>
      refine Calls.mono h fun e w'' he => ?_
      cases e with
      | returned v => exact hK _ _ he
      | panicked chain => exact hQ _ _ _ he
      | outgrown => obtain ⟨a0, w0, hq⟩ := he; exact ⟨a0, w0, hQ _ _ _ hq⟩
    | row row args => exact Rows.mono h fun v w'' hv => hK _ _ hv
    | _ => exact h.elim

theorem wpList_mono {P : Program} {ops : Array Oper} {Q Q' : Exit → Act → World → Prop} (hQ : ∀ e a w, Q e a w → Q' e a w) : ∀ (l : List Oper) (a : Act) (w : World), wpList P ops Q l a w → wpList P ops Q' l a w
  | [], a, w, h => hQ _ _ _ h
  | o :: l, a, w, h => by
    unfold wpList at h ⊢
    split
    · rename_i hw
      rw [if_pos hw] at h
      rcases h with h | ⟨h, a0, w0, hq⟩
      · exact .inl (wp_mono2 (wpList_mono hQ l) hQ h)
      · exact .inr ⟨h, a0, w0, hQ _ _ _ hq⟩
    · rename_i hw
      rw [if_neg hw] at h
      exact wpList_mono hQ l _ _ h

/-- a deferred function whose body is 'recover() and more' -/
theorem callsD_recover {P : Program} {f : FuncId} {fn : Func} {id : Nat} {o : Oper} {l : List Oper} {y : Code} {args : Array Value} {u : FrameMode} {w : World} {R : Ending → World → Prop}
    (hf : P.funcs[f]? = some fn) (hb : fn.body = some (.seq (.region id (o :: l).toArray false) y)) (hgd : o.guard = none)
    (hop : ∀ (a : Act), (execOp a.eval o).run P w = .ok .recover w)
    (h : wpList P (o :: l).toArray (Exit.then (fun a w => y.wp P (bodyPost P fn R) a w) (bodyPost P fn R)) l
      ((⟨args ++ Array.replicate (fn.ntmps - args.size) undef, []⟩ : Act).put o.dst (thrown u)) w) :
    CallsD P f args u w fun e u' w' => u' = caught u ∧ R e w' := by
  refine callsD_of_wpS hf hb fun c₀ cs hu => ?_
  apply wpS_seq
  refine wpS_region_recover (cs' := { c₀ with mode := caught u } :: cs) (v := thrown u) (o := o) (rest := List.range' 1 l.length) ?_ (by simp) (by simp [Region.wanted, hgd]) (hop _) (by subst hu; exact recoverD_caught c₀ cs) ?_
  · rw [List.range_eq_range']; simp [List.range'_succ]
  · rw [wpOps_eq_wpList l 1 (fun j => by rw [Nat.add_comm]; simp)]
    have hpost : ∀ e a w, bodyPost P fn R e a w → bodyPostS P fn c₀ cs (fun e u' w' => u' = caught u ∧ R e w') e a ({ c₀ with mode := caught u } :: cs) w := by
      intro e a w hq
      cases e with
      | normal => obtain ⟨hd, v, hr, hR⟩ := hq; exact ⟨hd, _, rfl, v, hr, rfl, hR⟩
      | ret => obtain ⟨hd, v, hr, hR⟩ := hq; exact ⟨hd, _, rfl, v, hr, rfl, hR⟩
      | panic chain => obtain ⟨hd, hR⟩ := hq; exact ⟨hd, _, rfl, rfl, hR⟩
      | exit id => exact hq.elim
      | goto l => exact hq.elim
      | outgrown => exact ⟨_, rfl, hq⟩
    refine wpList_mono ?_ l _ _ h
    intro e a w hq
    cases e with
    | normal => exact wpS_of_wp (Code.wp_mono hpost hq)
    | exit id => exact hpost (.exit id) a w hq
    | goto l => exact hpost (.goto l) a w hq
    | ret => exact hpost .ret a w hq
    | panic ch => exact hpost (.panic ch) a w hq
    | outgrown => exact hpost .outgrown a w hq
end Go.Proofs.YtdkencepmdfacaaGreatDoor

namespace Go.Proofs.YtdkencepmdfacaaGreatDoor
open Go.RowKit

theorem ta_yes (c : Int) (w : World) : (Instr.typeAssert (.iface 169 (.agg #[.int .i64 c])) 20 169 true).run Tryz.prog w = .ok (.tuple #[.agg #[.int .i64 c], .bool true]) w := by kernel_rfl
theorem ta_no (w : World) : (Instr.typeAssert .nilIface 20 169 true).run Tryz.prog w = .ok (.tuple #[.agg #[.int .i64 0], .bool false]) w := by kernel_rfl

theorem block_far {w : World} {k : Nat} {o : Obj} (h : w.heap[k]? = some o) {a : Addr} (ha : k ≠ a.block) (u : Value) : (w.setCell a u).heap[k]? = some o := (Below.heap_setCell w a u k ha).trans h
theorem block_alloc {w : World} {k : Nat} {o : Obj} (h : w.heap[k]? = some o) (x : Obj) : (w.alloc x).heap[k]? = some o := (Below.heap_alloc w x k (lt_of_block h)).trans h

/-- what a function that reads comes to: a value and how many bytes it took, or what it gives up with -/
def ReadPost {α : Type} (mk : α → Value) (g : Nat) (b : ByteArray) (p : Nat) (r : Except Int (α × Nat)) (w : World) (x : Ending) (w' : World) : Prop :=
  match r with
  | .ok (v, k) => x = .returned (mk v) ∧ Rdr w' g b (p + k) 0 ∧ w.grownBy w' (some g)
  | .error c => x = .panicked (gave c) ∧ (∃ q, Rdr w' g b q 0) ∧ w.grownBy w' (some g)

/-- .. and what a call of a reader comes to -/
def FacePost {α : Type} (mk : α → Value) (zero : α) (g : Nat) (b : ByteArray) (p : Nat) (r : Except Int (α × Nat)) (w : World) (x : Ending) (w' : World) : Prop :=
  match r with
  | .ok (v, k) => x = .returned (mk v) ∧ Rdr w' g b (p + k) 0 ∧ w.grownBy w' (some g)
  | .error c => x = .returned (mk zero) ∧ Rdr w' g b p c ∧ w.grownBy w' (some g)

set_option maxHeartbeats 1000000 in
theorem catchU_panicking (fb rb xb g p q : Nat) (b : ByteArray) (e c : Int) (v : Value) (older : List PanicEntry) (w : World)
    (hF : w.heap[fb]? = some (.cells #[.int .i64 (p : Int)] 3 (0, 0))) (hB : w.heap[rb]? = some (.cells #[.pointer (some ⟨g, 0, none⟩)] 97 (0, 0)))
    (hX : w.heap[xb]? = some (.cells #[v] 82 (0, 0))) (hR : Rdr w g b q e) (hne : g ≠ xb ∧ g ≠ rb ∧ g ≠ fb ∧ xb ≠ rb ∧ xb ≠ fb ∧ rb ≠ fb) :
    CallsD Tryz.prog 145 #[.pointer (some ⟨fb, 0, none⟩), .pointer (some ⟨rb, 0, none⟩), .pointer (some ⟨xb, 0, none⟩)] (.panicking ({ v := .iface 169 (.agg #[.int .i64 c]), recovered := false } :: older)) w fun x u' w' =>
      u' = .panicking ({ v := .iface 169 (.agg #[.int .i64 c]), recovered := true } :: older) ∧ x = .returned (.tuple #[]) ∧ Rdr w' g b p c ∧ w'.heap[xb]? = some (.cells #[(Value.int .u64 0)] 82 (0, 0)) ∧ Turns [g, xb] w w' := by
  have h1 := cell_of_one hF
  have h2 := cell_of_one hB
  have h3 := cell_of_one hX
  have h3f := free_of_one hX
  have l1 := lt_of_block hF
  have l2 := lt_of_block hB
  have l3 := lt_of_block hX
  have l4 := hR.lt
  have r1 := hR.c1
  have r2 := hR.c2
  have r1f := hR.fz 1
  have r2f := hR.fz 2
  have hta := ta_yes c
  obtain ⟨n1, n2, n3, n4, n5, n6⟩ := hne
  refine callsD_recover Tryz.func145 rfl rfl (fun a => rfl) ?_
  simp only [Tryz.ntmps145, List.size_toArray, List.length_cons, List.length_nil, Nat.reduceAdd, Nat.reduceSub, Array.replicate_succ, Array.replicate_zero, List.push_toArray, List.append_toArray, List.nil_append, List.cons_append, thrown, Act.put, List.setIfInBounds_toArray, List.set_cons_zero, List.set_cons_succ]
  have HX := Lib.hid hX
  clear hF hB hX
  go_wp2
  go_region
  go_end0
  refine ⟨rfl, ((((hR.set1 p).set2 c).far (a := ⟨xb, 0, none⟩) n1 _).alloc _).drew, ?_, (((((Turns.refl _ w).set (.inl (by simp)) _).set (.inl (by simp)) _).set (.inl (by simp)) _).alloc _).drew⟩
  exact block_alloc (one_setCell (block_far (block_far HX.out (a := ⟨g, 1, none⟩) (by simpa using n1.symm) _) (a := ⟨g, 2, none⟩) (by simpa using n1.symm) _)) _

set_option maxHeartbeats 400000 in
theorem catchU_returning (f0 r0 x0 : Value) (w : World) :
    CallsD Tryz.prog 145 #[f0, r0, x0] .returning w fun x u' w' => u' = .returning ∧ x = .returned (.tuple #[]) ∧ w' = w.alloc (.cells #[.int .i64 0] 169) := by
  have hta := ta_no
  refine callsD_recover Tryz.func145 rfl rfl (fun a => rfl) ?_
  simp only [Tryz.ntmps145, List.size_toArray, List.length_cons, List.length_nil, Nat.reduceAdd, Nat.reduceSub, Array.replicate_succ, Array.replicate_zero, List.push_toArray, List.append_toArray, List.nil_append, List.cons_append, thrown, Act.put, List.setIfInBounds_toArray, List.set_cons_zero, List.set_cons_succ]
  go_wp2
  go_end0
  exact ⟨rfl, rfl⟩

set_option maxHeartbeats 1000000 in
theorem faceU_fault (g : Nat) (b : ByteArray) (p : Nat) (e : Int) (cl : Value) (w : World) (hR : Rdr w g b p e) (he : e ≠ 0) :
    Calls Tryz.prog 91 #[.pointer (some ⟨g, 0, none⟩), cl] w fun x w' => x = .returned (Value.int .u64 0) ∧ Rdr w' g b p e ∧ w.grownBy w' (some g) := by
  have l4 := hR.lt
  have r2 := hR.c2
  have hb : (!(e == 0)) = true := by simpa using he
  have hb2 : (e == 0) = false := by simpa using he
  go_enter_defers Tryz.func91, Tryz.ntmps91
  go_wp2
  simp [bodyPostD, Leaves, results, Tryz.results91, go_sem]
  exact ⟨(hR.alloc _).alloc _, only_alloc (only_alloc (only_refl _ _) _) _⟩

set_option maxHeartbeats 1000000 in
theorem faceU_any (g : Nat) (b : ByteArray) (p : Nat) (F : Nat) (caps : Array Value) (r : Except Int (Int × Nat)) (w : World) (hR : Rdr w g b p 0) (hen : ∀ w : World, (callFunc F caps).run Tryz.prog w = .ok (.enter F caps) w)
    (hcl : ∀ wx, Rdr wx g b p 0 → Below w.heap.size w wx → Calls Tryz.prog F caps wx (ReadPost (Value.int .u64) g b p r wx)) :
    Calls Tryz.prog 91 #[.pointer (some ⟨g, 0, none⟩), .func (.func F) #[] caps] w (FacePost (Value.int .u64) 0 g b p r w) := by
  have l4 := hR.lt
  have r2 := hR.c2
  have r1 := hR.c1
  have HCL := Lib.hid hcl
  clear hcl
  have hmf : ∀ (fn : Fn) (first cap : Array Value) (w : World), (Instr.makeFunc fn first cap).run Tryz.prog w = .ok (.func fn first cap) w := fun _ _ _ _ => rfl
  obtain ⟨W, hW⟩ : ∃ W, W = ((w.alloc (.cells #[.pointer (some ⟨g, 0, none⟩)] 97)).alloc (.cells #[(Value.int .u64 0)] 82)).alloc (.cells #[.int .i64 (p : Int)] 3) := ⟨_, rfl⟩
  have a0 : (w.alloc (.cells #[.pointer (some ⟨g, 0, none⟩)] 97)).heap[w.heap.size]? = some (.cells #[.pointer (some ⟨g, 0, none⟩)] 97 (0, 0)) := heap_alloc_new _ _
  have b0 : W.heap[w.heap.size]? = some (.cells #[.pointer (some ⟨g, 0, none⟩)] 97 (0, 0)) := by rw [hW]; exact block_alloc (block_alloc a0 _) _
  have b1 : W.heap[w.heap.size + 1]? = some (.cells #[(Value.int .u64 0)] 82 (0, 0)) := by
    rw [hW]; refine block_alloc ?_ _
    have h := heap_alloc_new (w.alloc (.cells #[.pointer (some ⟨g, 0, none⟩)] 97)) (.cells #[(Value.int .u64 0)] 82)
    simpa using h
  have b2 : W.heap[w.heap.size + 1 + 1]? = some (.cells #[.int .i64 (p : Int)] 3 (0, 0)) := by
    rw [hW]
    have h := heap_alloc_new ((w.alloc (.cells #[.pointer (some ⟨g, 0, none⟩)] 97)).alloc (.cells #[(Value.int .u64 0)] 82)) (.cells #[.int .i64 (p : Int)] 3)
    simpa using h
  have hRW : Rdr W g b p 0 := by rw [hW]; exact ((hR.alloc _).alloc _).alloc _
  have hBW : Below w.heap.size w W := by rw [hW]; exact (((Below.refl _ w).alloc (Nat.le_refl _) _).alloc (by simp) _).alloc (by simp; omega) _
  have hTW : Turns [g] w W := Turns.of_below hBW
  have HC := HCL.out W hRW hBW
  have HHC := Lib.hid HC
  have HB := Lib.hid (And.intro b0 (And.intro b1 b2))
  have HT := Lib.hid hTW
  have HW := Lib.hid hW
  clear HCL HC b0 b1 b2 a0 hBW hTW hW
  go_enter_defers Tryz.func91, Tryz.ntmps91
  go_wp2_with fail
  rw [← HW.out]
  refine HHC.out.mono ?_
  obtain ⟨b0, b1, b2⟩ := HB.out
  cases r with
  | error c =>
    rintro x w1 ⟨rfl, ⟨q, hR1⟩, hg1⟩
    have k0 := Turns.keep (Turns.of_only hg1) b0 (by simp; omega)
    have k1 := Turns.keep (Turns.of_only hg1) b1 (by simp; omega)
    have k2 := Turns.keep (Turns.of_only hg1) b2 (by simp; omega)
    refine leaves_cons (f := 145) (args := #[.pointer (some ⟨w.heap.size + 1 + 1, 0, none⟩), .pointer (some ⟨w.heap.size, 0, none⟩), .pointer (some ⟨w.heap.size + 1, 0, none⟩)]) (by simp) (by simp [go_sem]) ?_
    refine (catchU_panicking (w.heap.size + 1 + 1) w.heap.size (w.heap.size + 1) g p q b 0 c _ [] w1 k2 k0 k1 hR1 (by omega)).mono ?_
    rintro x u' w2 ⟨rfl, rfl, hR2, hX2, hT2⟩
    have hc2 := cell_of_one hX2
    have hfin : w.grownBy w2 (some g) := ((((HT.out.trans (Turns.of_only hg1)).mono (S' := [g, w.heap.size + 1]) (by intro x hx; left; simp at hx ⊢; exact .inl hx)).trans hT2).mono (S' := [g]) (by intro x hx; simp at hx ⊢; omega)).only
    clear k0 k1 k2 b0 b1 b2
    simp [Leaves, settle, results, Tryz.results91, go_sem, hc2]
    exact ⟨rfl, hR2, hfin⟩
  | ok vk =>
    obtain ⟨v, k⟩ := vk
    rintro x w1 ⟨rfl, hR1, hg1⟩
    have k1 := Turns.keep (Turns.of_only hg1) b1 (by simp; omega)
    have kc := cell_of_one k1
    have kf := free_of_one k1
    simp only []
    go_wp2
    refine leaves_cons (f := 145) (args := #[.pointer (some ⟨w.heap.size + 1 + 1, 0, none⟩), .pointer (some ⟨w.heap.size, 0, none⟩), .pointer (some ⟨w.heap.size + 1, 0, none⟩)]) (by simp) (by simp [go_sem]) ?_
    refine (catchU_returning _ _ _ _).mono ?_
    rintro x u' w2 ⟨rfl, rfl, rfl⟩
    have hl1 := lt_of_block k1
    have hc2 := cell_of_one (block_alloc (one_setCell k1 (u := Value.int .u64 v)) (.cells #[.int .i64 0] 169))
    have hne : g ≠ w.heap.size + 1 := by omega
    have hfin : w.grownBy ((w1.setCell ⟨w.heap.size + 1, 0, none⟩ (Value.int .u64 v)).alloc (.cells #[.int .i64 0] 169)) (some g) := (((HT.out.trans (Turns.of_only hg1)).set (p := ⟨w.heap.size + 1, 0, none⟩) (.inr (by simp)) (Value.int .u64 v)).alloc _).only
    have hR2 := (hR1.far (a := ⟨w.heap.size + 1, 0, none⟩) hne (Value.int .u64 v)).alloc (.cells #[.int .i64 0] 169)
    clear k1 kc kf b0 b1 b2
    simp only [Leaves, settle]
    refine ⟨_, ?_, rfl, hR2, hfin⟩
    simp [results, Tryz.results91, go_sem, hc2]
set_option maxHeartbeats 1000000 in
theorem catchI_panicking (fb rb xb g p q : Nat) (b : ByteArray) (e c : Int) (v : Value) (older : List PanicEntry) (w : World)
    (hF : w.heap[fb]? = some (.cells #[.int .i64 (p : Int)] 3 (0, 0))) (hB : w.heap[rb]? = some (.cells #[.pointer (some ⟨g, 0, none⟩)] 97 (0, 0)))
    (hX : w.heap[xb]? = some (.cells #[v] 3 (0, 0))) (hR : Rdr w g b q e) (hne : g ≠ xb ∧ g ≠ rb ∧ g ≠ fb ∧ xb ≠ rb ∧ xb ≠ fb ∧ rb ≠ fb) :
    CallsD Tryz.prog 146 #[.pointer (some ⟨fb, 0, none⟩), .pointer (some ⟨rb, 0, none⟩), .pointer (some ⟨xb, 0, none⟩)] (.panicking ({ v := .iface 169 (.agg #[.int .i64 c]), recovered := false } :: older)) w fun x u' w' =>
      u' = .panicking ({ v := .iface 169 (.agg #[.int .i64 c]), recovered := true } :: older) ∧ x = .returned (.tuple #[]) ∧ Rdr w' g b p c ∧ w'.heap[xb]? = some (.cells #[(Value.int .i64 0)] 3 (0, 0)) ∧ Turns [g, xb] w w' := by
  have h1 := cell_of_one hF
  have h2 := cell_of_one hB
  have h3 := cell_of_one hX
  have h3f := free_of_one hX
  have l1 := lt_of_block hF
  have l2 := lt_of_block hB
  have l3 := lt_of_block hX
  have l4 := hR.lt
  have r1 := hR.c1
  have r2 := hR.c2
  have r1f := hR.fz 1
  have r2f := hR.fz 2
  have hta := ta_yes c
  obtain ⟨n1, n2, n3, n4, n5, n6⟩ := hne
  refine callsD_recover Tryz.func146 rfl rfl (fun a => rfl) ?_
  simp only [Tryz.ntmps146, List.size_toArray, List.length_cons, List.length_nil, Nat.reduceAdd, Nat.reduceSub, Array.replicate_succ, Array.replicate_zero, List.push_toArray, List.append_toArray, List.nil_append, List.cons_append, thrown, Act.put, List.setIfInBounds_toArray, List.set_cons_zero, List.set_cons_succ]
  have HX := Lib.hid hX
  clear hF hB hX
  go_wp2
  go_region
  go_end0
  refine ⟨rfl, ((((hR.set1 p).set2 c).far (a := ⟨xb, 0, none⟩) n1 _).alloc _).drew, ?_, (((((Turns.refl _ w).set (.inl (by simp)) _).set (.inl (by simp)) _).set (.inl (by simp)) _).alloc _).drew⟩
  exact block_alloc (one_setCell (block_far (block_far HX.out (a := ⟨g, 1, none⟩) (by simpa using n1.symm) _) (a := ⟨g, 2, none⟩) (by simpa using n1.symm) _)) _

set_option maxHeartbeats 400000 in
theorem catchI_returning (f0 r0 x0 : Value) (w : World) :
    CallsD Tryz.prog 146 #[f0, r0, x0] .returning w fun x u' w' => u' = .returning ∧ x = .returned (.tuple #[]) ∧ w' = w.alloc (.cells #[.int .i64 0] 169) := by
  have hta := ta_no
  refine callsD_recover Tryz.func146 rfl rfl (fun a => rfl) ?_
  simp only [Tryz.ntmps146, List.size_toArray, List.length_cons, List.length_nil, Nat.reduceAdd, Nat.reduceSub, Array.replicate_succ, Array.replicate_zero, List.push_toArray, List.append_toArray, List.nil_append, List.cons_append, thrown, Act.put, List.setIfInBounds_toArray, List.set_cons_zero, List.set_cons_succ]
  go_wp2
  go_end0
  exact ⟨rfl, rfl⟩

set_option maxHeartbeats 1000000 in
theorem faceI_fault (g : Nat) (b : ByteArray) (p : Nat) (e : Int) (cl : Value) (w : World) (hR : Rdr w g b p e) (he : e ≠ 0) :
    Calls Tryz.prog 94 #[.pointer (some ⟨g, 0, none⟩), cl] w fun x w' => x = .returned (Value.int .i64 0) ∧ Rdr w' g b p e ∧ w.grownBy w' (some g) := by
  have l4 := hR.lt
  have r2 := hR.c2
  have hb : (!(e == 0)) = true := by simpa using he
  have hb2 : (e == 0) = false := by simpa using he
  go_enter_defers Tryz.func94, Tryz.ntmps94
  go_wp2
  simp [bodyPostD, Leaves, results, Tryz.results94, go_sem]
  exact ⟨(hR.alloc _).alloc _, only_alloc (only_alloc (only_refl _ _) _) _⟩

set_option maxHeartbeats 1000000 in
theorem faceI_any (g : Nat) (b : ByteArray) (p : Nat) (F : Nat) (caps : Array Value) (r : Except Int (Int × Nat)) (w : World) (hR : Rdr w g b p 0) (hen : ∀ w : World, (callFunc F caps).run Tryz.prog w = .ok (.enter F caps) w)
    (hcl : ∀ wx, Rdr wx g b p 0 → Below w.heap.size w wx → Calls Tryz.prog F caps wx (ReadPost (Value.int .i64) g b p r wx)) :
    Calls Tryz.prog 94 #[.pointer (some ⟨g, 0, none⟩), .func (.func F) #[] caps] w (FacePost (Value.int .i64) 0 g b p r w) := by
  have l4 := hR.lt
  have r2 := hR.c2
  have r1 := hR.c1
  have HCL := Lib.hid hcl
  clear hcl
  have hmf : ∀ (fn : Fn) (first cap : Array Value) (w : World), (Instr.makeFunc fn first cap).run Tryz.prog w = .ok (.func fn first cap) w := fun _ _ _ _ => rfl
  obtain ⟨W, hW⟩ : ∃ W, W = ((w.alloc (.cells #[.pointer (some ⟨g, 0, none⟩)] 97)).alloc (.cells #[(Value.int .i64 0)] 3)).alloc (.cells #[.int .i64 (p : Int)] 3) := ⟨_, rfl⟩
  have a0 : (w.alloc (.cells #[.pointer (some ⟨g, 0, none⟩)] 97)).heap[w.heap.size]? = some (.cells #[.pointer (some ⟨g, 0, none⟩)] 97 (0, 0)) := heap_alloc_new _ _
  have b0 : W.heap[w.heap.size]? = some (.cells #[.pointer (some ⟨g, 0, none⟩)] 97 (0, 0)) := by rw [hW]; exact block_alloc (block_alloc a0 _) _
  have b1 : W.heap[w.heap.size + 1]? = some (.cells #[(Value.int .i64 0)] 3 (0, 0)) := by
    rw [hW]; refine block_alloc ?_ _
    have h := heap_alloc_new (w.alloc (.cells #[.pointer (some ⟨g, 0, none⟩)] 97)) (.cells #[(Value.int .i64 0)] 3)
    simpa using h
  have b2 : W.heap[w.heap.size + 1 + 1]? = some (.cells #[.int .i64 (p : Int)] 3 (0, 0)) := by
    rw [hW]
    have h := heap_alloc_new ((w.alloc (.cells #[.pointer (some ⟨g, 0, none⟩)] 97)).alloc (.cells #[(Value.int .i64 0)] 3)) (.cells #[.int .i64 (p : Int)] 3)
    simpa using h
  have hRW : Rdr W g b p 0 := by rw [hW]; exact ((hR.alloc _).alloc _).alloc _
  have hBW : Below w.heap.size w W := by rw [hW]; exact (((Below.refl _ w).alloc (Nat.le_refl _) _).alloc (by simp) _).alloc (by simp; omega) _
  have hTW : Turns [g] w W := Turns.of_below hBW
  have HC := HCL.out W hRW hBW
  have HHC := Lib.hid HC
  have HB := Lib.hid (And.intro b0 (And.intro b1 b2))
  have HT := Lib.hid hTW
  have HW := Lib.hid hW
  clear HCL HC b0 b1 b2 a0 hBW hTW hW
  go_enter_defers Tryz.func94, Tryz.ntmps94
  go_wp2_with fail
  rw [← HW.out]
  refine HHC.out.mono ?_
  obtain ⟨b0, b1, b2⟩ := HB.out
  cases r with
  | error c =>
    rintro x w1 ⟨rfl, ⟨q, hR1⟩, hg1⟩
    have k0 := Turns.keep (Turns.of_only hg1) b0 (by simp; omega)
    have k1 := Turns.keep (Turns.of_only hg1) b1 (by simp; omega)
    have k2 := Turns.keep (Turns.of_only hg1) b2 (by simp; omega)
    refine leaves_cons (f := 146) (args := #[.pointer (some ⟨w.heap.size + 1 + 1, 0, none⟩), .pointer (some ⟨w.heap.size, 0, none⟩), .pointer (some ⟨w.heap.size + 1, 0, none⟩)]) (by simp) (by simp [go_sem]) ?_
    refine (catchI_panicking (w.heap.size + 1 + 1) w.heap.size (w.heap.size + 1) g p q b 0 c _ [] w1 k2 k0 k1 hR1 (by omega)).mono ?_
    rintro x u' w2 ⟨rfl, rfl, hR2, hX2, hT2⟩
    have hc2 := cell_of_one hX2
    have hfin : w.grownBy w2 (some g) := ((((HT.out.trans (Turns.of_only hg1)).mono (S' := [g, w.heap.size + 1]) (by intro x hx; left; simp at hx ⊢; exact .inl hx)).trans hT2).mono (S' := [g]) (by intro x hx; simp at hx ⊢; omega)).only
    clear k0 k1 k2 b0 b1 b2
    simp [Leaves, settle, results, Tryz.results94, go_sem, hc2]
    exact ⟨rfl, hR2, hfin⟩
  | ok vk =>
    obtain ⟨v, k⟩ := vk
    rintro x w1 ⟨rfl, hR1, hg1⟩
    have k1 := Turns.keep (Turns.of_only hg1) b1 (by simp; omega)
    have kc := cell_of_one k1
    have kf := free_of_one k1
    simp only []
    go_wp2
    refine leaves_cons (f := 146) (args := #[.pointer (some ⟨w.heap.size + 1 + 1, 0, none⟩), .pointer (some ⟨w.heap.size, 0, none⟩), .pointer (some ⟨w.heap.size + 1, 0, none⟩)]) (by simp) (by simp [go_sem]) ?_
    refine (catchI_returning _ _ _ _).mono ?_
    rintro x u' w2 ⟨rfl, rfl, rfl⟩
    have hl1 := lt_of_block k1
    have hc2 := cell_of_one (block_alloc (one_setCell k1 (u := Value.int .i64 v)) (.cells #[.int .i64 0] 169))
    have hne : g ≠ w.heap.size + 1 := by omega
    have hfin : w.grownBy ((w1.setCell ⟨w.heap.size + 1, 0, none⟩ (Value.int .i64 v)).alloc (.cells #[.int .i64 0] 169)) (some g) := (((HT.out.trans (Turns.of_only hg1)).set (p := ⟨w.heap.size + 1, 0, none⟩) (.inr (by simp)) (Value.int .i64 v)).alloc _).only
    have hR2 := (hR1.far (a := ⟨w.heap.size + 1, 0, none⟩) hne (Value.int .i64 v)).alloc (.cells #[.int .i64 0] 169)
    clear k1 kc kf b0 b1 b2
    simp only [Leaves, settle]
    refine ⟨_, ?_, rfl, hR2, hfin⟩
    simp [results, Tryz.results94, go_sem, hc2]

end Go.Proofs.YtdkencepmdfacaaGreatDoor

namespace Go.Proofs.YtdkencepmdfacaaGreatDoor
open Go.RowKit

def upR (r : Except Int (Nat × Nat)) : Except Int (Int × Nat) :=
  match r with
  | .ok (n, k) => .ok ((n : Int), k)
  | .error c => .error c

theorem read_of_num {g : Nat} {b : ByteArray} {p : Nat} {r : Except Int (Nat × Nat)} {w w' : World} {x : Ending} (h : NumPost g b p 0 r w x w') : ReadPost (Value.int .u64) g b p (upR r) w x w' := by
  cases r with
  | error c => exact h
  | ok v => obtain ⟨n, k⟩ := v; exact h

/-- number, as a function that reads -/
theorem number_read (g : Nat) (b : ByteArray) (p : Nat) (most : Nat) (over : Int) (w : World) (hR : Rdr w g b p 0) (hp : p ≤ b.size) (hb : b.size < 4294967296) (hm : most < 18446744073709551616) :
    Calls Tryz.prog 93 #[.pointer (some ⟨g, 0, none⟩), .int .u64 (most : Int), .int .i64 over] w (ReadPost (Value.int .u64) g b p (upR (numR (b.data.toList.drop p) most over)) w) :=
  (number_any g b p 0 most over w hR hp hb hm).mono fun _ _ h => read_of_num h

theorem numR_le {l : List UInt8} {most n k : Nat} {over : Int} (h : numR l most over = .ok (n, k)) : n ≤ most := by
  unfold numR at h
  cases hr : rdv 0 0 l with
  | error c => rw [hr] at h; cases h
  | ok v =>
    obtain ⟨m, j⟩ := v
    rw [hr] at h
    by_cases hm : m ≤ most
    · simp [hm] at h
      omega
    · simp [hm] at h

theorem upR_le {l : List UInt8} {most k : Nat} {n : Int} {over : Int} (h : upR (numR l most over) = .ok (n, k)) : 0 ≤ n ∧ n ≤ most := by
  unfold upR at h
  cases hr : numR l most over with
  | error c => rw [hr] at h; cases h
  | ok v =>
    obtain ⟨m, j⟩ := v
    have := numR_le hr
    rw [hr] at h
    simp at h
    omega

set_option maxHeartbeats 400000 in
theorem num_lit (rb mb g : Nat) (b : ByteArray) (p most : Nat) (w : World) (hB : w.heap[rb]? = some (.cells #[.pointer (some ⟨g, 0, none⟩)] 97 (0, 0))) (hM : w.heap[mb]? = some (.cells #[.int .u64 (most : Int)] 82 (0, 0)))
    (hR : Rdr w g b p 0) (hp : p ≤ b.size) (hb : b.size < 4294967296) (hm : most < 18446744073709551616) :
    Calls Tryz.prog 92 #[.pointer (some ⟨rb, 0, none⟩), .pointer (some ⟨mb, 0, none⟩)] w (ReadPost (Value.int .u64) g b p (upR (numR (b.data.toList.drop p) most 21)) w) := by
  have h1 := cell_of_one hB
  have h2 := cell_of_one hM
  have hc := number_read g b p most 21 w hR hp hb hm
  generalize upR (numR (b.data.toList.drop p) most 21) = R at hc ⊢
  have HC := Lib.hid hc
  clear hc hB hM
  go_enter Tryz.func92, Tryz.ntmps92
  go_wp2_with fail
  refine HC.out.mono ?_
  cases R with
  | error c =>
    rintro x w1 ⟨rfl, hq⟩
    exact ⟨rfl, rfl, hq⟩
  | ok v =>
    obtain ⟨n, k⟩ := v
    rintro x w1 ⟨rfl, hq⟩
    go_wp2
    go_ret
    exact ⟨rfl, hq⟩

set_option maxHeartbeats 400000 in
theorem list_any (g : Nat) (b : ByteArray) (p : Nat) (most : Int) (w : World) (hR : Rdr w g b p 0) (hp : p ≤ b.size) (hb : b.size < 4294967296) (hm : most ≤ 9223372036854775807) :
    Calls Tryz.prog 96 #[.pointer (some ⟨g, 0, none⟩), .int .i64 most] w (ReadPost (Value.int .i64) g b p (upR (numR (b.data.toList.drop p) most.toNat 23)) w) := by
  obtain ⟨m, hmd⟩ : ∃ m, m = most.toNat := ⟨_, rfl⟩
  have hm63 : m ≤ 9223372036854775807 := by omega
  have hc := number_read g b p m 23 w hR hp hb (by omega)
  rw [← hmd]
  have hle : ∀ n k, upR (numR (b.data.toList.drop p) m 23) = .ok (n, k) → 0 ≤ n ∧ n ≤ m := fun n k h => upR_le h
  generalize upR (numR (b.data.toList.drop p) m 23) = R at hc hle ⊢
  have HC := Lib.hid hc
  have HL := Lib.hid hle
  clear hc hle
  by_cases h0 : most ≤ 0
  · obtain rfl : m = 0 := by omega
    clear hmd
    go_enter Tryz.func96, Tryz.ntmps96
    go_wp2_with fail
    refine HC.out.mono ?_
    cases R with
    | error c =>
      rintro x w1 ⟨rfl, hq⟩
      exact ⟨rfl, rfl, hq⟩
    | ok v =>
      obtain ⟨n, k⟩ := v
      rintro x w1 ⟨rfl, hq⟩
      obtain ⟨b1, b2⟩ := HL.out _ _ rfl
      go_wp2
      go_ret
      exact ⟨rfl, hq⟩
  · obtain rfl : most = (m : Int) := by omega
    clear hmd
    go_enter Tryz.func96, Tryz.ntmps96
    go_wp2_with fail
    refine HC.out.mono ?_
    cases R with
    | error c =>
      rintro x w1 ⟨rfl, hq⟩
      exact ⟨rfl, rfl, hq⟩
    | ok v =>
      obtain ⟨n, k⟩ := v
      rintro x w1 ⟨rfl, hq⟩
      obtain ⟨b1, b2⟩ := HL.out _ _ rfl
      go_wp2
      go_ret
      exact ⟨rfl, hq⟩

set_option maxHeartbeats 400000 in
theorem list_lit (rb mb g : Nat) (b : ByteArray) (p : Nat) (most : Int) (w : World) (hB : w.heap[rb]? = some (.cells #[.pointer (some ⟨g, 0, none⟩)] 97 (0, 0))) (hM : w.heap[mb]? = some (.cells #[.int .i64 most] 3 (0, 0)))
    (hR : Rdr w g b p 0) (hp : p ≤ b.size) (hb : b.size < 4294967296) (hm : most ≤ 9223372036854775807) :
    Calls Tryz.prog 95 #[.pointer (some ⟨rb, 0, none⟩), .pointer (some ⟨mb, 0, none⟩)] w (ReadPost (Value.int .i64) g b p (upR (numR (b.data.toList.drop p) most.toNat 23)) w) := by
  have h1 := cell_of_one hB
  have h2 := cell_of_one hM
  have hc := list_any g b p most w hR hp hb hm
  generalize upR (numR (b.data.toList.drop p) most.toNat 23) = R at hc ⊢
  have HC := Lib.hid hc
  clear hc hB hM
  go_enter Tryz.func95, Tryz.ntmps95
  go_wp2_with fail
  refine HC.out.mono ?_
  cases R with
  | error c =>
    rintro x w1 ⟨rfl, hq⟩
    exact ⟨rfl, rfl, hq⟩
  | ok v =>
    obtain ⟨n, k⟩ := v
    rintro x w1 ⟨rfl, hq⟩
    go_wp2
    go_ret
    exact ⟨rfl, hq⟩
end Go.Proofs.YtdkencepmdfacaaGreatDoor

namespace Go.Proofs.YtdkencepmdfacaaGreatDoor
open Go.RowKit

def bitsR (l : List UInt8) : Except Int (Int × Nat) := if 8 ≤ l.length then .ok ((bitsOf (l.take 8) : Int), 8) else .error 20

theorem take8 {b : ByteArray} {p : Nat} (h : 8 ≤ (b.data.toList.drop p).length) : b.extract p (p + 8) = str ((b.data.toList.drop p).take 8) ∧ p + 8 ≤ b.size := by
  constructor
  · apply ByteArray.ext
    apply Array.toList_inj.1
    rw [ByteArray.data_extract, Array.toList_extract, List.extract_eq_take_drop]
    simp [str]
  · rw [List.length_drop, Array.length_toList] at h
    have : b.size = b.data.size := rfl
    omega

theorem bits_step {l : List UInt8} {k : Nat} (h : k < l.length) (h8 : k < 8) :
    bits .or .u64 (IntKind.u64.wrap ((bitsOf (l.take k) : Int) * 256)) ((l[k]).toNat : Int) = (bitsOf (l.take (k + 1)) : Int) := by
  have hc := (l[k]).toNat_lt
  have hb : bitsOf (l.take k) < 72057594037927936 := Nat.lt_of_lt_of_le (bitsOf_lt k l) (by
    match k, h8 with
    | 0, _ | 1, _ | 2, _ | 3, _ | 4, _ | 5, _ | 6, _ | 7, _ => decide)
  have e : ((bitsOf (l.take k) : Int) * 256) = ((bitsOf (l.take k) * 256 : Nat) : Int) := by omega
  rw [e, IntWalk.u64_in ((bitsOf (l.take k) * 256 : Nat) : Int) (by omega), u64_or_nat _ _ (by omega) (by omega), bitsOf_take h]
  congr 1
  have h2 := Nat.two_pow_add_eq_or_of_lt (i := 8) (b := (l[k]).toNat) hc (bitsOf (l.take k))
  rw [Nat.mul_comm] at h2
  exact h2.symm

set_option maxHeartbeats 1000000 in
theorem bits_lit (rb g : Nat) (b : ByteArray) (p : Nat) (w : World) (hB : w.heap[rb]? = some (.cells #[.pointer (some ⟨g, 0, none⟩)] 97 (0, 0)))
    (hR : Rdr w g b p 0) (hp : p ≤ b.size) (hb : b.size < 4294967296) :
    Calls Tryz.prog 97 #[.pointer (some ⟨rb, 0, none⟩)] w (ReadPost (Value.int .u64) g b p (bitsR (b.data.toList.drop p)) w) := by
  have h1 := cell_of_one hB
  clear hB
  unfold bitsR
  by_cases h8 : 8 ≤ (b.data.toList.drop p).length
  · rw [if_pos h8]
    obtain ⟨hx, hsz⟩ := take8 h8
    obtain ⟨l, hl⟩ : ∃ l, l = (b.data.toList.drop p).take 8 := ⟨_, rfl⟩
    have hll : l.length = 8 := by rw [hl, List.length_take]; omega
    rw [← hl] at hx ⊢
    clear hl h8
    have HX := Lib.hid hx
    have HL := Lib.hid hll
    clear hx hll
    go_enter Tryz.func97, Tryz.ntmps97
    go_wp2_with fail
    refine (take_ok g b p 8 0 w hR hsz hb).mono ?_
    rintro x w1 ⟨rfl, hR1, hg1⟩
    rw [HX.out]
    obtain ⟨cap, w2, hcv, hcell, hb2⟩ := run_bytes_of (P := Tryz.prog) w1 9 43 5 (str l) Tryz.underlying9 Tryz.underlying43 Tryz.underlying5
    rw [show (str l).size = 8 from HL.out] at hcv
    have HC := Lib.hid hcell
    clear hcell
    go_wp2
    have hfin : Rdr w2 g b (p + 8) 0 ∧ w.grownBy w2 (some g) := ⟨hR1.below hb2 hR1.lt, only_trans hg1 (only_of_below hb2 _)⟩
    have HF := Lib.hid hfin
    clear hfin hcv
    go_loop [2, 9] (fun n i => ∃ k : Nat, k ≤ 8 ∧ i = .int .i64 (k : Int) ∧ n = .int .u64 (bitsOf (l.take k) : Int)) (fun _ i => 8 - (intOf i).toNat)
    case atStart => exact ⟨0, by omega, rfl, by simp [bitsOf]⟩
    case round =>
      obtain ⟨k, hk, rfl, rfl⟩ := hrel
      by_cases hlt : k < 8
      · have hkl : k < l.length := by have := HL.out; omega
        have hc := HC.out k l[k] (by simp [str, List.getElem?_eq_getElem hkl])
        unfold B at hc
        have hv := Lib.hid (bits_step hkl hlt)
        go_wp2
        refine ⟨⟨k + 1, by omega, by go_num, ?_⟩, by simp [intOf]; omega⟩
        have hc6 := (l[k]).toNat_lt
        rw [IntWalk.u64_in ((l[k]).toNat : Int) (by omega), hv.out]
      · obtain rfl : k = 8 := by omega
        go_wp2
        go_ret
        refine ⟨?_, HF.out⟩
        rw [List.take_of_length_le (by have := HL.out; omega)]
        rfl
  · rw [if_neg h8]
    have hsz : b.size < p + 8 := by
      rw [List.length_drop, Array.length_toList] at h8
      have : b.size = b.data.size := rfl
      omega
    go_enter Tryz.func97, Tryz.ntmps97
    go_wp2_with fail
    refine (take_short g b p 8 0 w hR hsz hp hb (by omega)).mono ?_
    rintro x w1 ⟨rfl, hR1, hg1⟩
    exact ⟨rfl, rfl, ⟨_, hR1⟩, hg1⟩
end Go.Proofs.YtdkencepmdfacaaGreatDoor

namespace Go.Proofs.YtdkencepmdfacaaGreatDoor
open Go.RowKit

/-- a text: how long it is, and its bytes -/
def textR (l : List UInt8) (most : Nat) : Except Int (ByteArray × Nat) :=
  match numR l most 23 with
  | .error c => .error c
  | .ok (n, k) => if n + k ≤ l.length then .ok (str ((l.drop k).take n), k + n) else .error 20

end Go.Proofs.YtdkencepmdfacaaGreatDoor

namespace Go.Proofs.YtdkencepmdfacaaGreatDoor
open Go.RowKit

/-- what a call of a reader answers, where the reader stands behind it, and its fault -/
def rdrStep {α : Type} (zero : α) (r : Except Int (α × Nat)) (p : Nat) (e : Int) : α × Nat × Int :=
  if e ≠ 0 then (zero, p, e) else
  match r with
  | .ok (v, k) => (v, p + k, 0)
  | .error c => (zero, p, c)

def MethPost {α : Type} (mk : α → Value) (g : Nat) (b : ByteArray) (s : α × Nat × Int) (w : World) (x : Ending) (w' : World) : Prop :=
  x = .returned (mk s.1) ∧ Rdr w' g b s.2.1 s.2.2 ∧ w.grownBy w' (some g)

theorem meth_of_face {α : Type} {mk : α → Value} {zero : α} {g : Nat} {b : ByteArray} {p : Nat} {r : Except Int (α × Nat)} {w w' : World} {x : Ending} (h : FacePost mk zero g b p r w x w') :
    MethPost mk g b (rdrStep zero r p 0) w x w' := by
  cases r with
  | error c => exact h
  | ok v => obtain ⟨v, k⟩ := v; exact h

theorem meth_of_fault {α : Type} {mk : α → Value} {zero : α} {g : Nat} {b : ByteArray} {p : Nat} {r : Except Int (α × Nat)} {w w' : World} {x : Ending} {e : Int} (he : e ≠ 0)
    (h : x = .returned (mk zero) ∧ Rdr w' g b p e ∧ w.grownBy w' (some g)) : MethPost mk g b (rdrStep zero r p e) w x w' := by
  unfold MethPost rdrStep
  rw [if_pos he]
  exact h

set_option maxHeartbeats 1000000 in
theorem rNum (g : Nat) (b : ByteArray) (p : Nat) (e : Int) (most : Nat) (w : World) (hR : Rdr w g b p e) (hp : p ≤ b.size) (hb : b.size < 4294967296) (hm : most < 18446744073709551616) :
    Calls Tryz.prog 61 #[.pointer (some ⟨g, 0, none⟩), .int .u64 (most : Int)] w (MethPost (Value.int .u64) g b (rdrStep 0 (upR (numR (b.data.toList.drop p) most 21)) p e) w) := by
  obtain ⟨W, hW⟩ : ∃ W, W = ((w.alloc (.cells #[.pointer (some ⟨g, 0, none⟩)] 97)).alloc (.cells #[.int .u64 (most : Int)] 82)) := ⟨_, rfl⟩
  have b0 : W.heap[w.heap.size]? = some (.cells #[.pointer (some ⟨g, 0, none⟩)] 97 (0, 0)) := by rw [hW]; exact block_alloc (heap_alloc_new _ _) _
  have b1 : W.heap[w.heap.size + 1]? = some (.cells #[.int .u64 (most : Int)] 82 (0, 0)) := by
    rw [hW]
    have h := heap_alloc_new (w.alloc (.cells #[.pointer (some ⟨g, 0, none⟩)] 97)) (.cells #[.int .u64 (most : Int)] 82)
    simpa using h
  have hRW : Rdr W g b p e := by rw [hW]; exact (hR.alloc _).alloc _
  have hBW : Below w.heap.size w W := by rw [hW]; exact ((Below.refl _ w).alloc (Nat.le_refl _) _).alloc (by simp) _
  have hsz : w.heap.size + 1 < W.heap.size := by rw [hW]; simp
  have hgW : w.grownBy W (some g) := only_of_below hBW _
  have hmf : ∀ (fn : Fn) (first cap : Array Value) (w : World), (Instr.makeFunc fn first cap).run Tryz.prog w = .ok (.func fn first cap) w := fun _ _ _ _ => rfl
  have hc : Calls Tryz.prog 91 #[.pointer (some ⟨g, 0, none⟩), .func (.func 92) #[] #[.pointer (some ⟨w.heap.size, 0, none⟩), .pointer (some ⟨w.heap.size + 1, 0, none⟩)]] W (MethPost (Value.int .u64) g b (rdrStep 0 (upR (numR (b.data.toList.drop p) most 21)) p e) W) := by
    by_cases he : e = 0
    · subst he
      exact (faceU_any g b p 92 #[.pointer (some ⟨w.heap.size, 0, none⟩), .pointer (some ⟨w.heap.size + 1, 0, none⟩)] (upR (numR (b.data.toList.drop p) most 21)) W hRW (fun _ => rfl) (fun wx hx hbx => num_lit w.heap.size (w.heap.size + 1) g b p most wx (hbx.block _ (by omega) |>.trans b0) (hbx.block _ (by omega) |>.trans b1) hx hp hb hm)).mono fun _ _ h => meth_of_face h
    · exact (faceU_fault g b p e _ W hRW he).mono fun _ _ h => meth_of_fault he h
  generalize rdrStep 0 (upR (numR (b.data.toList.drop p) most 21)) p e = R at hc ⊢
  have HC := Lib.hid hc
  have HW := Lib.hid hW
  clear hc hW b0 b1
  go_enter Tryz.func61, Tryz.ntmps61
  go_wp2_with fail
  rw [← HW.out]
  refine HC.out.mono ?_
  obtain ⟨v, q, f⟩ := R
  rintro x w1 ⟨rfl, hR1, hg1⟩
  go_wp2
  go_ret
  exact ⟨rfl, hR1, only_trans hgW hg1⟩

set_option maxHeartbeats 1000000 in
theorem rList (g : Nat) (b : ByteArray) (p : Nat) (e : Int) (most : Int) (w : World) (hR : Rdr w g b p e) (hp : p ≤ b.size) (hb : b.size < 4294967296) (hm : most ≤ 9223372036854775807) :
    Calls Tryz.prog 62 #[.pointer (some ⟨g, 0, none⟩), .int .i64 most] w (MethPost (Value.int .i64) g b (rdrStep 0 (upR (numR (b.data.toList.drop p) most.toNat 23)) p e) w) := by
  obtain ⟨W, hW⟩ : ∃ W, W = ((w.alloc (.cells #[.pointer (some ⟨g, 0, none⟩)] 97)).alloc (.cells #[.int .i64 most] 3)) := ⟨_, rfl⟩
  have b0 : W.heap[w.heap.size]? = some (.cells #[.pointer (some ⟨g, 0, none⟩)] 97 (0, 0)) := by rw [hW]; exact block_alloc (heap_alloc_new _ _) _
  have b1 : W.heap[w.heap.size + 1]? = some (.cells #[.int .i64 most] 3 (0, 0)) := by
    rw [hW]
    have h := heap_alloc_new (w.alloc (.cells #[.pointer (some ⟨g, 0, none⟩)] 97)) (.cells #[.int .i64 most] 3)
    simpa using h
  have hRW : Rdr W g b p e := by rw [hW]; exact (hR.alloc _).alloc _
  have hBW : Below w.heap.size w W := by rw [hW]; exact ((Below.refl _ w).alloc (Nat.le_refl _) _).alloc (by simp) _
  have hsz : w.heap.size + 1 < W.heap.size := by rw [hW]; simp
  have hgW : w.grownBy W (some g) := only_of_below hBW _
  have hmf : ∀ (fn : Fn) (first cap : Array Value) (w : World), (Instr.makeFunc fn first cap).run Tryz.prog w = .ok (.func fn first cap) w := fun _ _ _ _ => rfl
  have hc : Calls Tryz.prog 94 #[.pointer (some ⟨g, 0, none⟩), .func (.func 95) #[] #[.pointer (some ⟨w.heap.size, 0, none⟩), .pointer (some ⟨w.heap.size + 1, 0, none⟩)]] W (MethPost (Value.int .i64) g b (rdrStep 0 (upR (numR (b.data.toList.drop p) most.toNat 23)) p e) W) := by
    by_cases he : e = 0
    · subst he
      exact (faceI_any g b p 95 #[.pointer (some ⟨w.heap.size, 0, none⟩), .pointer (some ⟨w.heap.size + 1, 0, none⟩)] (upR (numR (b.data.toList.drop p) most.toNat 23)) W hRW (fun _ => rfl) (fun wx hx hbx => list_lit w.heap.size (w.heap.size + 1) g b p most wx (hbx.block _ (by omega) |>.trans b0) (hbx.block _ (by omega) |>.trans b1) hx hp hb hm)).mono fun _ _ h => meth_of_face h
    · exact (faceI_fault g b p e _ W hRW he).mono fun _ _ h => meth_of_fault he h
  generalize rdrStep 0 (upR (numR (b.data.toList.drop p) most.toNat 23)) p e = R at hc ⊢
  have HC := Lib.hid hc
  have HW := Lib.hid hW
  clear hc hW b0 b1
  go_enter Tryz.func62, Tryz.ntmps62
  go_wp2_with fail
  rw [← HW.out]
  refine HC.out.mono ?_
  obtain ⟨v, q, f⟩ := R
  rintro x w1 ⟨rfl, hR1, hg1⟩
  go_wp2
  go_ret
  exact ⟨rfl, hR1, only_trans hgW hg1⟩

set_option maxHeartbeats 1000000 in
theorem rBits (g : Nat) (b : ByteArray) (p : Nat) (e : Int)  (w : World) (hR : Rdr w g b p e) (hp : p ≤ b.size) (hb : b.size < 4294967296)  :
    Calls Tryz.prog 64 #[.pointer (some ⟨g, 0, none⟩)] w (MethPost (Value.int .u64) g b (rdrStep 0 (bitsR (b.data.toList.drop p)) p e) w) := by
  obtain ⟨W, hW⟩ : ∃ W, W = (w.alloc (.cells #[.pointer (some ⟨g, 0, none⟩)] 97)) := ⟨_, rfl⟩
  have b0 : W.heap[w.heap.size]? = some (.cells #[.pointer (some ⟨g, 0, none⟩)] 97 (0, 0)) := by rw [hW]; exact heap_alloc_new _ _
  have hRW : Rdr W g b p e := by rw [hW]; exact hR.alloc _
  have hBW : Below w.heap.size w W := by rw [hW]; exact (Below.refl _ w).alloc (Nat.le_refl _) _
  have hsz : w.heap.size < W.heap.size := by rw [hW]; simp
  have hgW : w.grownBy W (some g) := only_of_below hBW _
  have hmf : ∀ (fn : Fn) (first cap : Array Value) (w : World), (Instr.makeFunc fn first cap).run Tryz.prog w = .ok (.func fn first cap) w := fun _ _ _ _ => rfl
  have hc : Calls Tryz.prog 91 #[.pointer (some ⟨g, 0, none⟩), .func (.func 97) #[] #[.pointer (some ⟨w.heap.size, 0, none⟩)]] W (MethPost (Value.int .u64) g b (rdrStep 0 (bitsR (b.data.toList.drop p)) p e) W) := by
    by_cases he : e = 0
    · subst he
      exact (faceU_any g b p 97 #[.pointer (some ⟨w.heap.size, 0, none⟩)] (bitsR (b.data.toList.drop p)) W hRW (fun _ => rfl) (fun wx hx hbx => bits_lit w.heap.size g b p wx (hbx.block _ (by omega) |>.trans b0) hx hp hb)).mono fun _ _ h => meth_of_face h
    · exact (faceU_fault g b p e _ W hRW he).mono fun _ _ h => meth_of_fault he h
  generalize rdrStep 0 (bitsR (b.data.toList.drop p)) p e = R at hc ⊢
  have HC := Lib.hid hc
  have HW := Lib.hid hW
  clear hc hW b0 
  go_enter Tryz.func64, Tryz.ntmps64
  go_wp2_with fail
  rw [← HW.out]
  refine HC.out.mono ?_
  obtain ⟨v, q, f⟩ := R
  rintro x w1 ⟨rfl, hR1, hg1⟩
  go_wp2
  go_ret
  exact ⟨rfl, hR1, only_trans hgW hg1⟩

end Go.Proofs.YtdkencepmdfacaaGreatDoor

namespace Go.Proofs.YtdkencepmdfacaaGreatDoor
open Go.RowKit

set_option maxHeartbeats 400000 in
theorem read_any (b : ByteArray) (w : World) :
    Calls Tryz.prog 60 #[.string b] w fun x w' => x = .returned (.pointer (some ⟨w.heap.size, 0, none⟩)) ∧ Rdr w' w.heap.size b 0 0 ∧ Below w.heap.size w w' ∧ w'.heap.size = w.heap.size + 1 := by
  go_enter Tryz.func60, Tryz.ntmps60
  go_wp2
  go_ret
  exact ⟨rfl, heap_alloc_new _ _, (Below.refl _ w).alloc (Nat.le_refl _) _, by simp⟩

set_option maxHeartbeats 400000 in
theorem fault_any (g : Nat) (b : ByteArray) (p : Nat) (e : Int) (w : World) (hR : Rdr w g b p e) :
    Calls Tryz.prog 99 #[.pointer (some ⟨g, 0, none⟩)] w fun x w' => x = .returned (.tuple #[.int .i64 e, .int .i64 (if e = 0 then 0 else (p : Int))]) ∧ ∃ n, w' = w.drewN n := by
  have r1 := hR.c1
  have r2 := hR.c2
  by_cases he : e = 0
  · subst he
    go_enter Tryz.func99, Tryz.ntmps99
    go_wp2
    go_ret2
    exact ⟨rfl, 0, rfl⟩
  · have hb2 : (e == 0) = false := by simpa using he
    rw [if_neg he]
    go_enter Tryz.func99, Tryz.ntmps99
    go_wp2
    go_quiet (fail)
    go_wp2
    go_ret2
    exact ⟨rfl, _, rfl⟩

/-- what End tells -/
def endE (b : ByteArray) (p : Nat) (e : Int) : Int := if e = 0 ∧ p < b.size then 24 else e
def endP (b : ByteArray) (p : Nat) (e : Int) : Int := if e = 0 ∧ ¬ p < b.size then 0 else (p : Int)

set_option maxHeartbeats 400000 in
theorem end_any (g : Nat) (b : ByteArray) (p : Nat) (e : Int) (w : World) (hR : Rdr w g b p e) :
    Calls Tryz.prog 65 #[.pointer (some ⟨g, 0, none⟩)] w fun x w' => x = .returned (.tuple #[.int .i64 (endE b p e), .int .i64 (endP b p e)]) ∧ ∃ n, w' = w.drewN n := by
  have r0 := hR.c0
  have r1 := hR.c1
  have r2 := hR.c2
  by_cases he : e = 0
  · subst he
    by_cases hlt : p < b.size
    · have hi : (p : Int) < b.size := by omega
      rw [show endE b p 0 = 24 from if_pos ⟨rfl, hlt⟩, show endP b p 0 = p from if_neg (by simp [hlt])]
      go_enter Tryz.func65, Tryz.ntmps65
      go_wp2
      go_quiet (fail)
      go_wp2
      go_quiet (fail)
      go_wp2
      go_ret2
      exact ⟨rfl, _, by first | rfl | (simp [World.drewN_drewN]; rfl)⟩
    · have hi : ¬ (p : Int) < b.size := by omega
      have hd : decide ((p : Int) < b.size) = false := by simpa using hlt
      rw [show endE b p 0 = 0 from if_neg (by simp [hlt]), show endP b p 0 = 0 from if_pos ⟨rfl, hlt⟩]
      go_enter Tryz.func65, Tryz.ntmps65
      go_wp2
      go_quiet (fail)
      go_wp2_with fail
      refine (fault_any g b p 0 _ (hR.drewN _)).mono ?_
      rintro x w1 ⟨rfl, n, rfl⟩
      go_wp2
      go_ret2
      exact ⟨rfl, _, by first | rfl | (simp [World.drewN_drewN]; rfl)⟩
  · have hb2 : (e == 0) = false := by simpa using he
    rw [show endE b p e = e from if_neg (by simp [he]), show endP b p e = p from if_neg (by simp [he])]
    go_enter Tryz.func65, Tryz.ntmps65
    go_wp2
    go_quiet (fail)
    go_wp2_with fail
    refine (fault_any g b p e _ (hR.drewN _)).mono ?_
    rw [if_neg he]
    rintro x w1 ⟨rfl, n, rfl⟩
    go_wp2
    go_ret2
    exact ⟨rfl, _, by first | rfl | (simp [World.drewN_drewN]; rfl)⟩

end Go.Proofs.YtdkencepmdfacaaGreatDoor
