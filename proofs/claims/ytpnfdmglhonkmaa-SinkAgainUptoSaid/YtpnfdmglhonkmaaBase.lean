/- Lemmas that name no program: rows of the call's own, bytes and strings, what a call leaves as it was. -/
import Derived.WalkKit
import Derived.WalkSpells
import Derived.WalkLawsBesides
import Derived.Lib.Hide
import Derived.Deep.Draws
import Derived.Maps.AppendAt
import Derived.Deep.AppendLies
import Derived.Laws.BytesArg
import Derived.Lib.AppendStr
import Derived.Test.YtpnfdmglhonkmaaSpec
set_option maxRecDepth 100000
namespace Go.Proofs.Ytpnfdmglhonkmaa
open Go.RowKit

theorem own_below {w w' : World} {base : Nat} {e : TypeId} {size : Nat} {v : Value} {n : Nat} {xs : List Value} (h : w.ownsRow base e size v n xs) (hg : w.grownBy w' v.ownBlock) (hb : base ≤ w.heap.size) : Below base w w' :=
  (Below.refl base w).grown hg hb fun k hk => (h.lt k hk).1

section
variable {a b c w : World}
theorem only_refl (a : World) (row : Option Nat) : a.grownBy a row := World.grownBy.refl a row
theorem only_trans {row : Option Nat} (h : a.grownBy b row) (k : b.grownBy c row) : a.grownBy c row :=
  ⟨k.os.trans h.os, k.tape.trans h.tape, k.output.trans h.output, Nat.le_trans h.size k.size, fun i hi hne => (k.block i (Nat.lt_of_lt_of_le hi h.size) hne).trans (h.block i hi hne)⟩
theorem only_drewN {row : Option Nat} (h : a.grownBy w row) (n : Nat) : a.grownBy (w.drewN n) row := ⟨h.os, h.tape, h.output, h.size, h.block⟩
theorem only_drew {row : Option Nat} (h : a.grownBy w row) : a.grownBy w.drew row := ⟨h.os, h.tape, h.output, h.size, h.block⟩
theorem only_alloc {row : Option Nat} (h : a.grownBy w row) (o : Obj) : a.grownBy (w.alloc o) row :=
  ⟨h.os, h.tape, h.output, Nat.le_trans h.size (by simp), fun i hi hne => (Below.heap_alloc w o i (Nat.lt_of_lt_of_le hi h.size)).trans (h.block i hi hne)⟩
theorem only_set {g : Nat} (h : a.grownBy w (some g)) {p : Addr} (hp : p.block = g ∨ a.heap.size ≤ p.block) (u : Value) : a.grownBy (w.setCell p u) (some g) :=
  ⟨h.os, h.tape, h.output, by simpa [World.setCell] using h.size, fun i hi hne => (Below.heap_setCell w p u i (by
    rintro rfl
    rcases hp with hp | hp
    · exact hne (by rw [hp])
    · omega)).trans (h.block i hi hne)⟩
theorem only_of_below (h : Below a.heap.size a w) (row : Option Nat) : a.grownBy w row := ⟨h.os, h.tape, h.output, h.size, fun i hi _ => h.block i hi⟩
theorem below_drewN {B : Nat} (h : Below B a w) (n : Nat) : Below B a (w.drewN n) := ⟨h.os, h.tape, h.output, h.size, h.block⟩
/-- what turns one block from B on leaves all below B as it was -/
theorem below_of_only {B g : Nat} (h : a.grownBy w (some g)) (hg : B ≤ g) (hB : B ≤ a.heap.size) : Below B a w :=
  ⟨h.os, h.tape, h.output, h.size, fun i hi => h.block i (by omega) (by intro e; injection e; omega)⟩
theorem below_of_none {B : Nat} (h : a.grownBy w none) (hB : B ≤ a.heap.size) : Below B a w :=
  ⟨h.os, h.tape, h.output, h.size, fun i hi => h.block i (by omega) (by simp)⟩
end

/-- w' is w with new blocks, and with the blocks of S turned -/
structure Turns (S : List Nat) (w w' : World) : Prop where
  os : w'.os = w.os
  tape : w'.tape = w.tape
  output : w'.output = w.output
  size : w.heap.size ≤ w'.heap.size
  block : ∀ k, k < w.heap.size → k ∉ S → w'.heap[k]? = w.heap[k]?

section
variable {a b c w : World} {S : List Nat}
theorem Turns.refl (S : List Nat) (a : World) : Turns S a a := ⟨rfl, rfl, rfl, Nat.le_refl _, fun _ _ _ => rfl⟩
theorem Turns.trans (h : Turns S a b) (k : Turns S b c) : Turns S a c :=
  ⟨k.os.trans h.os, k.tape.trans h.tape, k.output.trans h.output, Nat.le_trans h.size k.size, fun i hi hn => (k.block i (Nat.lt_of_lt_of_le hi h.size) hn).trans (h.block i hi hn)⟩
theorem Turns.mono {S' : List Nat} (h : Turns S a b) (hS : ∀ x, x ∈ S → x ∈ S' ∨ a.heap.size ≤ x) : Turns S' a b :=
  ⟨h.os, h.tape, h.output, h.size, fun i hi hn => h.block i hi fun hm => by
    rcases hS i hm with hx | hx
    · exact hn hx
    · omega⟩
theorem Turns.drewN (h : Turns S a w) (n : Nat) : Turns S a (w.drewN n) := ⟨h.os, h.tape, h.output, h.size, h.block⟩
theorem Turns.drew (h : Turns S a w) : Turns S a w.drew := ⟨h.os, h.tape, h.output, h.size, h.block⟩
theorem Turns.alloc (h : Turns S a w) (o : Obj) : Turns S a (w.alloc o) :=
  ⟨h.os, h.tape, h.output, Nat.le_trans h.size (by simp), fun i hi hn => (Below.heap_alloc w o i (Nat.lt_of_lt_of_le hi h.size)).trans (h.block i hi hn)⟩
theorem Turns.set (h : Turns S a w) {p : Addr} (hp : p.block ∈ S ∨ a.heap.size ≤ p.block) (u : Value) : Turns S a (w.setCell p u) :=
  ⟨h.os, h.tape, h.output, by simpa [World.setCell] using h.size, fun i hi hn => (Below.heap_setCell w p u i (by
    rintro rfl
    rcases hp with hp | hp
    · exact hn hp
    · omega)).trans (h.block i hi hn)⟩
theorem Turns.of_below (h : Below a.heap.size a w) : Turns S a w := ⟨h.os, h.tape, h.output, h.size, fun i hi _ => h.block i hi⟩
theorem Turns.of_only {g : Nat} (h : a.grownBy w (some g)) : Turns [g] a w := ⟨h.os, h.tape, h.output, h.size, fun i hi hn => h.block i hi (by intro e; injection e with e; exact hn (by simp [e]))⟩
theorem Turns.only {g : Nat} (h : Turns [g] a w) : a.grownBy w (some g) := ⟨h.os, h.tape, h.output, h.size, fun i hi hn => h.block i hi (by intro e; simp at e; exact hn (by rw [e]))⟩
theorem Turns.below {B : Nat} (h : Turns S a w) (hB : B ≤ a.heap.size) (hS : ∀ x, x ∈ S → B ≤ x) : Below B a w :=
  ⟨h.os, h.tape, h.output, h.size, fun i hi => h.block i (by omega) fun hm => by have := hS i hm; omega⟩
/-- a block that is not among S is as it was -/
theorem Turns.keep {g : Nat} {o : Obj} (h : Turns S a w) (hg : a.heap[g]? = some o) (hn : g ∉ S) : w.heap[g]? = some o := (h.block g (lt_of_block hg) hn).trans hg
end

/-- what the call owns stays owned where nothing that was there has turned -/
theorem own_kept {w w' : World} {base : Nat} {e : TypeId} {size : Nat} {v : Value} {n : Nat} {xs : List Value} (h : w.ownsRow base e size v n xs) (hb : Below w.heap.size w w') : w'.ownsRow base e size v n xs := by
  refine h.kept (only_of_below hb none) ?_
  cases v.ownBlock with
  | none => exact .inl rfl
  | some g => exact .inr (by simp)

theorem own_shape {w : World} {base : Nat} {e : TypeId} {size : Nat} {v : Value} {n : Nat} {xs : List Value} (h : w.ownsRow base e size v n xs) : (v = .slice none 0 0 ∧ n = 0) ∨ ∃ g cap, v = .slice (some ⟨g, 0, none⟩) n cap ∧ n ≤ cap := by
  rcases h.2 with h2 | ⟨g, cap, cur, hv, _, _, hc, _⟩
  · exact .inl h2
  · exact .inr ⟨g, cap, hv, hc⟩

/-- append(s, u): u lies in the newest block, a row of the call's own grows by one -/
theorem wpList_append_one {P : Program} {w : World} {ops : Array Oper} {rest : List Oper} {o : Oper} {a : Act} {Q : Exit → Act → World → Prop} (hgd : o.guard = none) (s x : Operand) (t : TypeId)
    (ho : o.op = .call { callee := .builtin .append, args := #[s, x], argTypes := #[t, t] })
    (base : Nat) (e : TypeId) (i : TypeInfo) (z : Value) (bytes : Nat) (ht : P.underlying t = some (.slice e)) (hi : P.info? e = some i) (hz : i.zero = some z)
    (hsize : i.size = 1) (hby : i.bytes = bytes) (hzs : z.cells.size = 1)
    (v : Value) (n : Nat) (xs : List Value) (hs : a.eval s = v) (hown : w.ownsRow base e 1 v n xs) (u : Value) (h1 : u.oneCell' = true)
    (hx : a.eval x = .slice (some ⟨w.heap.size, 0, none⟩) 1 1) (hn : n < 1073741824) (hbytes : bytes ≤ 4096) (hbase : base ≤ w.heap.size)
    (h : ∀ v' w', w'.ownsRow base e 1 v' (n + 1) (xs ++ [u]) → Below base w w' → w.grownBy w' v.ownBlock → wpList P ops Q rest (a.put o.dst v') w') :
    wpList P ops Q (o :: rest) a (w.alloc (.cells #[u] e)) := by
  refine wpList_append_own (w := w.alloc (.cells #[u] e)) hgd s x t ho base e i z 1 bytes ht hi hz hsize hby hzs (by omega) v n xs hs (hown.alloc _) ⟨w.heap.size, 0, none⟩ 1 1 [u] hx rfl ?_ ?_ ?_ ?_ ?_ ?_
  · exact cell_one_new _ _ _
  · intro y hy
    simp at hy
    subst hy
    exact h1
  · unfold maxLen; omega
  · calc (n + 1) * bytes ≤ 1073741824 * 4096 := Nat.mul_le_mul (by omega) hbytes
      _ ≤ _ := by decide
  · simp; omega
  · intro v' w' ho' hg _
    have hg0 : w.grownBy w' v.ownBlock := by
      have ha := World.grownBy_alloc w (.cells #[u] e) v.ownBlock
      exact ⟨hg.os.trans ha.os, hg.tape.trans ha.tape, hg.output.trans ha.output, Nat.le_trans ha.size hg.size, fun k hk hne => (hg.block k (Nat.lt_of_lt_of_le hk ha.size) hne).trans (ha.block k hk hne)⟩
    exact h v' w' ho' (own_below hown hg0 hbase) hg0

/-- string(b) of a row of the call's own -/
theorem run_convert_own {P : Program} {w : World} {src dst e : TypeId} (hs : P.underlying src = some (.slice e)) (he : P.underlying e = some (.int .u8)) (hd : P.underlying dst = some .string)
    {base : Nat} {v : Value} {n : Nat} {l : List UInt8} (hown : w.ownsRow base e 1 v n (l.map B)) : (convert src dst v).run P w = .ok (.string (str l)) w := by
  rcases hown.2 with ⟨rfl, hn⟩ | ⟨g, cap, cur, rfl, hg, hh, hnc, _, hsz, hx⟩
  · have hl : l = [] := by
      have := hown.1
      subst hn
      simpa using this
    subst hl
    exact run_convert_bytes_nil w src e hs he 0 0 dst hd
  · have hlen : l.length = n := by simpa using hown.1
    have hm : strOfNums (l.map fun c => (c.toNat : Int)) = str l := by
      unfold strOfNums str
      rw [List.map_map]
      congr 2
      rw [List.map_congr_left (g := id) (fun c _ => by simp), List.map_id]
    rw [← hm]
    refine run_convert_bytes_arg w src e hs he g 0 n cap (l.map fun c => (c.toNat : Int)) (by simpa using hlen) (fun i hi => ?_) dst hd
    have hc := hown.cellAt i (by omega)
    rw [Nat.zero_add, hc]
    simp [List.getElem?_map, List.getElem?_eq_getElem (show i < l.length by omega), B]

/-- append(b, s...): s a text -/
theorem wpList_append_str {P : Program} {w : World} {ops : Array Oper} {rest : List Oper} {o : Oper} {a : Act} {Q : Exit → Act → World → Prop} (hgd : o.guard = none) (sl x : Operand) (t u : TypeId)
    (ho : o.op = .call { callee := .builtin .append, args := #[sl, x], argTypes := #[t, u] })
    (base : Nat) (e : TypeId) (i : TypeInfo) (ht : P.underlying t = some (.slice e)) (hu : P.underlying u = some .string) (hi : P.info? e = some i) (hz : i.zero = some (.int .u8 0))
    (hsize : i.size = 1) (hby : i.bytes = 1)
    (v : Value) (n : Nat) (l : List UInt8) (hs : a.eval sl = v) (hown : w.ownsRow base e 1 v n (l.map B)) (s : List UInt8) (hx : a.eval x = .string (str s))
    (hn : n + s.length < 1073741824) (hbase : base ≤ w.heap.size)
    (h : ∀ v' w', w'.ownsRow base e 1 v' (n + s.length) ((l ++ s).map B) → Below base w w' → w.grownBy w' v.ownBlock → wpList P ops Q rest (a.put o.dst v') w') : wpList P ops Q (o :: rest) a w := by
  have hss : (str s).size = s.length := str_size s
  have hc : Lib.strCells (str s) = s.map B := rfl
  refine Lib.wpList_append_own_string w hgd sl x t u ho base e i ht hu hi hz hsize hby v n (l.map B) hs hown (str s) hx (by rw [hss]; unfold maxLen; omega) (by rw [hss]; omega) hbase ?_
  intro v' w' ho' hg _
  rw [hss, hc, ← List.map_append] at ho'
  exact h v' w' ho' (own_below hown hg hbase) hg

/-- string(b[:k]) of a row of the call's own -/
theorem run_convert_take {P : Program} {w : World} {src dst e : TypeId} (hs : P.underlying src = some (.slice e)) (he : P.underlying e = some (.int .u8)) (hd : P.underlying dst = some .string)
    {base g n cap k : Nat} {l : List UInt8} (hown : w.ownsRow base e 1 (.slice (some ⟨g, 0, none⟩) n cap) n (l.map B)) (hk : k ≤ n) :
    (convert src dst (.slice (some ⟨g, 0, none⟩) k cap)).run P w = .ok (.string (str (l.take k))) w := by
  have hlen : l.length = n := by simpa using hown.1
  have hm : strOfNums ((l.take k).map fun c => (c.toNat : Int)) = str (l.take k) := by
    unfold strOfNums str
    rw [List.map_map]
    congr 2
    rw [List.map_congr_left (g := id) (fun c _ => by simp), List.map_id]
  rw [← hm]
  refine run_convert_bytes_arg w src e hs he g 0 k cap ((l.take k).map fun c => (c.toNat : Int)) (by simp; omega) (fun i hi => ?_) dst hd
  have hc := hown.cellAt i (by omega)
  rw [Nat.zero_add, hc]
  simp [List.getElem?_eq_getElem (show i < l.length by omega), B, List.getElem?_take, hi]

/-- []byte(s) -/
theorem run_bytes_of {P : Program} (w : World) (src dst e : TypeId) (s : ByteArray) (hs : P.underlying src = some .string) (hd : P.underlying dst = some (.slice e)) (he : P.underlying e = some (.int .u8)) :
    ∃ cap w', (convert src dst (.string s)).run P w = .ok (.slice (some ⟨w.heap.size, 0, none⟩) s.size cap) w' ∧ (∀ j c, s.data.toList[j]? = some c → w'.cell? ⟨w.heap.size, j, none⟩ = some (B c)) ∧ Below w.heap.size w w' := by
  refine ⟨_, _, run_bytes_of_string w src dst e s hs hd he, fun j c hj => ?_, ((Below.refl _ w).drew.alloc (Nat.le_refl _) _)⟩
  rw [Array.getElem?_toList] at hj
  obtain ⟨hlt, hc⟩ := Array.getElem?_eq_some_iff.1 hj
  have h := World.cell?_alloc_mark w.drew (bytesRow s (grownCap w s.size 0 e)) e ((bytesRow s (grownCap w s.size 0 e)).size, (bytesRow s (grownCap w s.size 0 e)).size + 1) j
  refine h.trans ?_
  rw [bytesRow_at s _ j hlt, hc]
  rfl

/-- a slice that came in: n elements of so many cells each, C its cells -/
def Sl (w : World) (B size : Nat) (A : Option Addr) (n : Nat) (C : Nat → Value) : Prop :=
  0 < n → ∃ b off, A = some ⟨b, off, none⟩ ∧ b < B ∧ ∀ j, j < n * size → w.cell? ⟨b, off + j, none⟩ = some (C j)

section
variable {w w' : World} {B size n : Nat} {A : Option Addr} {C : Nat → Value}
theorem Sl.more {B' : Nat} (h : Sl w B size A n C) (hB : B ≤ B') : Sl w B' size A n C := fun hn => by
  obtain ⟨b, off, e, hlt, hc⟩ := h hn
  exact ⟨b, off, e, by omega, hc⟩
theorem Sl.below (h : Sl w B size A n C) (hb : Below B w w') : Sl w' B size A n C := fun hn => by
  obtain ⟨b, off, e, hlt, hc⟩ := h hn
  exact ⟨b, off, e, hlt, fun j hj => (hb.cell (p := ⟨b, off + j, none⟩) hlt).trans (hc j hj)⟩
end

end Go.Proofs.Ytpnfdmglhonkmaa
