/- What walks over memory lean on (no function of the program is named): rows of the call's own, what a call leaves as it was, bytes, slices of structs opened, a deferred function that begins with recover(). -/
import Derived.Test.YtjloiclbknfomaaGreatDoorKcell
import Derived.Lib.Hide
import Derived.Maps.AppendAt
import Derived.Deep.AppendLies
import Derived.Deep.Onto
import Derived.Laws.BytesArg
import Derived.Laws.OwnMore
import Derived.Lib.AppendStr
import Derived.Lib.Strings
import Derived.Laws.MakeOwn
import Derived.Recover
import Derived.OneCell
import Derived.Deep.RegionHeld3
import Derived.Deep.SlicePairs
import Derived.Deep.Slices
import Derived.Deep.Fields
import Derived.ChangeSame
set_option maxRecDepth 100000
namespace Go.Proofs.YtjloiclbknfomaaGreatDoor
open Go.RowKit

/-- a byte as a value -/
def B (c : UInt8) : Value := .int .u8 (c.toNat : Int)
/-- a text of bytes -/
def str (l : List UInt8) : ByteArray := ⟨l.toArray⟩
theorem str_size (l : List UInt8) : (str l).size = l.length := by simp [str, ByteArray.size]

theorem own_below {w w' : World} {base : Nat} {e : TypeId} {size : Nat} {v : Value} {n : Nat} {xs : List Value} (h : w.ownsRow base e size v n xs) (hg : w.grownBy w' v.ownBlock) (hb : base ≤ w.heap.size) : Below base w w' :=
  (Below.refl base w).grown hg hb fun k hk => (h.lt k hk).1

section
variable {a b c w : World}
theorem only_refl (a : World) (row : Option Nat) : a.grownBy a row := World.grownBy.refl a row
theorem only_trans {row : Option Nat} (h : a.grownBy b row) (k : b.grownBy c row) : a.grownBy c row :=
  ⟨k.os.trans h.os, k.tape.trans h.tape, k.output.trans h.output, Nat.le_trans h.size k.size, fun i hi hne => (k.block i (Nat.lt_of_lt_of_le hi h.size) hne).trans (h.block i hi hne)⟩
theorem only_drewN {row : Option Nat} (h : a.grownBy w row) (n : Nat) : a.grownBy (w.drewN n) row := ⟨h.os, h.tape, h.output, h.size, h.block⟩
theorem only_drew {row : Option Nat} (h : a.grownBy w row) : a.grownBy w.drew row := ⟨h.os, h.tape, h.output, h.size, h.block⟩
theorem only_alloc {row : Option Nat} (h : a.grownBy w row) (o : Obj) : a.grownBy (w.alloc o) row :=
  ⟨h.os, h.tape, h.output, Nat.le_trans h.size (by simp), fun i hi hne => (Below.heap_alloc w o i (Nat.lt_of_lt_of_le hi h.size)).trans (h.block i hi hne)⟩
theorem only_set {g : Nat} (h : a.grownBy w (some g)) {p : Addr} (hp : p.block = g ∨ a.heap.size ≤ p.block) (u : Value) : a.grownBy (w.setCell p u) (some g) :=
  ⟨h.os, h.tape, h.output, by simpa [World.setCell] using h.size, fun i hi hne => (Below.heap_setCell w p u i (by
    rintro rfl
    rcases hp with hp | hp
    · exact hne (by rw [hp])
    · omega)).trans (h.block i hi hne)⟩
theorem only_of_below (h : Below a.heap.size a w) (row : Option Nat) : a.grownBy w row := ⟨h.os, h.tape, h.output, h.size, fun i hi _ => h.block i hi⟩
/-- what turns one block from B on leaves all below B as it was -/
theorem below_of_only {B g : Nat} (h : a.grownBy w (some g)) (hg : B ≤ g) (hB : B ≤ a.heap.size) : Below B a w :=
  ⟨h.os, h.tape, h.output, h.size, fun i hi => h.block i (by omega) (by intro e; injection e; omega)⟩
theorem below_of_none {B : Nat} (h : a.grownBy w none) (hB : B ≤ a.heap.size) : Below B a w :=
  ⟨h.os, h.tape, h.output, h.size, fun i hi => h.block i (by omega) (by simp)⟩
end

/-- w' is w with new blocks, and with the blocks of S turned -/
structure Turns (S : List Nat) (w w' : World) : Prop where
  os : w'.os = w.os
  tape : w'.tape = w.tape
  output : w'.output = w.output
  size : w.heap.size ≤ w'.heap.size
  block : ∀ k, k < w.heap.size → k ∉ S → w'.heap[k]? = w.heap[k]?

section
variable {a b c w : World} {S : List Nat}
theorem Turns.refl (S : List Nat) (a : World) : Turns S a a := ⟨rfl, rfl, rfl, Nat.le_refl _, fun _ _ _ => rfl⟩
theorem Turns.trans (h : Turns S a b) (k : Turns S b c) : Turns S a c :=
  ⟨k.os.trans h.os, k.tape.trans h.tape, k.output.trans h.output, Nat.le_trans h.size k.size, fun i hi hn => (k.block i (Nat.lt_of_lt_of_le hi h.size) hn).trans (h.block i hi hn)⟩
theorem Turns.mono {S' : List Nat} (h : Turns S a b) (hS : ∀ x, x ∈ S → x ∈ S' ∨ a.heap.size ≤ x) : Turns S' a b :=
  ⟨h.os, h.tape, h.output, h.size, fun i hi hn => h.block i hi fun hm => by
    rcases hS i hm with hx | hx
    · exact hn hx
    · omega⟩
theorem Turns.drewN (h : Turns S a w) (n : Nat) : Turns S a (w.drewN n) := ⟨h.os, h.tape, h.output, h.size, h.block⟩
theorem Turns.drew (h : Turns S a w) : Turns S a w.drew := ⟨h.os, h.tape, h.output, h.size, h.block⟩
theorem Turns.alloc (h : Turns S a w) (o : Obj) : Turns S a (w.alloc o) :=
  ⟨h.os, h.tape, h.output, Nat.le_trans h.size (by simp), fun i hi hn => (Below.heap_alloc w o i (Nat.lt_of_lt_of_le hi h.size)).trans (h.block i hi hn)⟩
theorem Turns.set (h : Turns S a w) {p : Addr} (hp : p.block ∈ S ∨ a.heap.size ≤ p.block) (u : Value) : Turns S a (w.setCell p u) :=
  ⟨h.os, h.tape, h.output, by simpa [World.setCell] using h.size, fun i hi hn => (Below.heap_setCell w p u i (by
    rintro rfl
    rcases hp with hp | hp
    · exact hn hp
    · omega)).trans (h.block i hi hn)⟩
theorem Turns.of_below (h : Below a.heap.size a w) : Turns S a w := ⟨h.os, h.tape, h.output, h.size, fun i hi _ => h.block i hi⟩
theorem Turns.of_only {g : Nat} (h : a.grownBy w (some g)) : Turns [g] a w := ⟨h.os, h.tape, h.output, h.size, fun i hi hn => h.block i hi (by intro e; injection e with e; exact hn (by simp [e]))⟩
theorem Turns.only {g : Nat} (h : Turns [g] a w) : a.grownBy w (some g) := ⟨h.os, h.tape, h.output, h.size, fun i hi hn => h.block i hi (by intro e; simp at e; exact hn (by rw [e]))⟩
theorem Turns.below {B : Nat} (h : Turns S a w) (hB : B ≤ a.heap.size) (hS : ∀ x, x ∈ S → B ≤ x) : Below B a w :=
  ⟨h.os, h.tape, h.output, h.size, fun i hi => h.block i (by omega) fun hm => by have := hS i hm; omega⟩
/-- a block that is not among S is as it was -/
theorem Turns.keep {g : Nat} {o : Obj} (h : Turns S a w) (hg : a.heap[g]? = some o) (hn : g ∉ S) : w.heap[g]? = some o := (h.block g (lt_of_block hg) hn).trans hg
end

/-- what the call owns stays owned where nothing that was there has turned -/
theorem own_kept {w w' : World} {base : Nat} {e : TypeId} {size : Nat} {v : Value} {n : Nat} {xs : List Value} (h : w.ownsRow base e size v n xs) (hb : Below w.heap.size w w') : w'.ownsRow base e size v n xs := by
  refine h.kept (only_of_below hb none) ?_
  cases v.ownBlock with
  | none => exact .inl rfl
  | some g => exact .inr (by simp)

theorem own_shape {w : World} {base : Nat} {e : TypeId} {size : Nat} {v : Value} {n : Nat} {xs : List Value} (h : w.ownsRow base e size v n xs) : (v = .slice none 0 0 ∧ n = 0) ∨ ∃ g cap, v = .slice (some ⟨g, 0, none⟩) n cap ∧ n ≤ cap := by
  rcases h.2 with h2 | ⟨g, cap, cur, hv, _, _, hc, _⟩
  · exact .inl h2
  · exact .inr ⟨g, cap, hv, hc⟩

/-- append(s, u): u lies in the newest block, a row of the call's own grows by one -/
theorem wpList_append_one {P : Program} {w : World} {ops : Array Oper} {rest : List Oper} {o : Oper} {a : Act} {Q : Exit → Act → World → Prop} (hgd : o.guard = none) (s x : Operand) (t : TypeId)
    (ho : o.op = .call { callee := .builtin .append, args := #[s, x], argTypes := #[t, t] })
    (base : Nat) (e : TypeId) (i : TypeInfo) (z : Value) (bytes : Nat) (ht : P.underlying t = some (.slice e)) (hi : P.info? e = some i) (hz : i.zero = some z)
    (hsize : i.size = 1) (hby : i.bytes = bytes) (hzs : z.cells.size = 1)
    (v : Value) (n : Nat) (xs : List Value) (hs : a.eval s = v) (hown : w.ownsRow base e 1 v n xs) (u : Value) (h1 : u.oneCell' = true)
    (hx : a.eval x = .slice (some ⟨w.heap.size, 0, none⟩) 1 1) (hn : n < 1073741824) (hbytes : bytes ≤ 4096) (hbase : base ≤ w.heap.size)
    (h : ∀ v' w', w'.ownsRow base e 1 v' (n + 1) (xs ++ [u]) → Below base w w' → w.grownBy w' v.ownBlock → wpList P ops Q rest (a.put o.dst v') w') :
    wpList P ops Q (o :: rest) a (w.alloc (.cells #[u] e)) := by
  refine wpList_append_own (w := w.alloc (.cells #[u] e)) hgd s x t ho base e i z 1 bytes ht hi hz hsize hby hzs (by omega) v n xs hs (hown.alloc _) ⟨w.heap.size, 0, none⟩ 1 1 [u] hx rfl ?_ ?_ ?_ ?_ ?_ ?_
  · exact cell_one_new _ _ _
  · intro y hy
    simp at hy
    subst hy
    exact h1
  · unfold maxLen; omega
  · calc (n + 1) * bytes ≤ 1073741824 * 4096 := Nat.mul_le_mul (by omega) hbytes
      _ ≤ _ := by decide
  · simp; omega
  · intro v' w' ho' hg _
    have hg0 : w.grownBy w' v.ownBlock := by
      have ha := World.grownBy_alloc w (.cells #[u] e) v.ownBlock
      exact ⟨hg.os.trans ha.os, hg.tape.trans ha.tape, hg.output.trans ha.output, Nat.le_trans ha.size hg.size, fun k hk hne => (hg.block k (Nat.lt_of_lt_of_le hk ha.size) hne).trans (ha.block k hk hne)⟩
    exact h v' w' ho' (own_below hown hg0 hbase) hg0

/-- a slice that came in: n elements of so many cells each, C its cells -/
def Sl (w : World) (B size : Nat) (A : Option Addr) (n : Nat) (C : Nat → Value) : Prop :=
  0 < n → ∃ b off, A = some ⟨b, off, none⟩ ∧ b < B ∧ ∀ j, j < n * size → w.cell? ⟨b, off + j, none⟩ = some (C j)

section
variable {w w' : World} {B size n : Nat} {A : Option Addr} {C : Nat → Value}
theorem Sl.more {B' : Nat} (h : Sl w B size A n C) (hB : B ≤ B') : Sl w B' size A n C := fun hn => by
  obtain ⟨b, off, e, hlt, hc⟩ := h hn
  exact ⟨b, off, e, by omega, hc⟩
theorem Sl.below (h : Sl w B size A n C) (hb : Below B w w') : Sl w' B size A n C := fun hn => by
  obtain ⟨b, off, e, hlt, hc⟩ := h hn
  exact ⟨b, off, e, hlt, fun j hj => (hb.cell (p := ⟨b, off + j, none⟩) hlt).trans (hc j hj)⟩
end

theorem block_far {w : World} {k : Nat} {o : Obj} (h : w.heap[k]? = some o) {a : Addr} (ha : k ≠ a.block) (u : Value) : (w.setCell a u).heap[k]? = some o := (Below.heap_setCell w a u k ha).trans h
theorem block_alloc {w : World} {k : Nat} {o : Obj} (h : w.heap[k]? = some o) (x : Obj) : (w.alloc x).heap[k]? = some o := (Below.heap_alloc w x k (lt_of_block h)).trans h
theorem Cells.turns {w w' : World} {g : Nat} {t : TypeId} {c : Array Value} {S : List Nat} (h : Cells w g t c) (hb : Turns S w w') (hg : g ∉ S) : Cells w' g t c := hb.keep h hg
theorem row_turns {w w' : World} {S : List Nat} {base : Nat} {t : TypeId} {size : Nat} {v : Value} {n : Nat} {xs : List Value} (h : w.ownsRow base t size v n xs) (ht : Turns S w w') (hS : ∀ k, v.ownBlock = some k → k ∉ S) : w'.ownsRow base t size v n xs := by
  refine ⟨h.1, ?_⟩
  rcases h.2 with hn | ⟨k, cap, cur, rfl, hb, hg, rest⟩
  · exact .inl hn
  · exact .inr ⟨k, cap, cur, rfl, hb, (ht.block k (lt_of_block hg) (hS k rfl)).trans hg, rest⟩
end Go.Proofs.YtjloiclbknfomaaGreatDoor

namespace Go.Proofs.YtjloiclbknfomaaGreatDoor
open Go.RowKit

theorem info_split {o : Option TypeInfo} {z : Value} {s b : Nat} (h : (o.map fun i => (i.zero, i.size, i.bytes)) = some (some z, s, b)) : ∃ i, o = some i ∧ i.zero = some z ∧ i.size = s ∧ i.bytes = b := by
  cases o with
  | none => simp at h
  | some i =>
    simp at h
    exact ⟨i, rfl, h.1, h.2.1, h.2.2⟩

theorem own_block_type {w : World} {base : Nat} {t : TypeId} {size : Nat} {v : Value} {n : Nat} {xs : List Value} {g : Nat} (h : w.ownsRow base t size v n xs) (hv : v.ownBlock = some g) : ∃ cur, w.heap[g]? = some (.cells cur t (0, 0)) := by
  rcases h.2 with ⟨rfl, _⟩ | ⟨g', cap, cur, rfl, _, hh, _⟩
  · simp [Value.ownBlock] at hv
  · simp [Value.ownBlock] at hv
    subst hv
    exact ⟨cur, hh⟩

theorem block_ne {w : World} {t t' : TypeId} {c c' : Array Value} {g g' : Nat} (h : w.heap[g]? = some (.cells c t (0, 0))) (h' : w.heap[g']? = some (.cells c' t' (0, 0))) (hne : t ≠ t') : g ≠ g' := by
  rintro rfl
  rw [h] at h'
  injection h' with h'
  injection h' with _ ht
  exact hne ht

theorem block_ne_map {w : World} {t : TypeId} {c : Array Value} {g g' : Nat} {es : Array MapEntry} {n : Nat} (h : w.heap[g]? = some (.cells c t (0, 0))) (h' : w.heap[g']? = some (.map es n)) : g ≠ g' := by
  rintro rfl
  rw [h] at h'
  cases h'

/-- append(s, u): u, of so many cells, lies in the newest block -/
theorem wpList_append_elem {P : Program} {w : World} {ops : Array Oper} {rest : List Oper} {o : Oper} {a : Act} {Q : Exit → Act → World → Prop} (hgd : o.guard = none) (s x : Operand) (t : TypeId)
    (ho : o.op = .call { callee := .builtin .append, args := #[s, x], argTypes := #[t, t] })
    (base : Nat) (e : TypeId) (i : TypeInfo) (z : Value) (size bytes : Nat) (ht : P.underlying t = some (.slice e)) (hi : P.info? e = some i) (hz : i.zero = some z)
    (hsize : i.size = size) (hby : i.bytes = bytes) (hzs : z.cells.size = size) (hsz : 0 < size)
    (v : Value) (n : Nat) (xs : List Value) (hs : a.eval s = v) (hown : w.ownsRow base e size v n xs) (us : Array Value) (hus : us.size = size) (h1 : ∀ u ∈ us.toList, u.oneCell' = true)
    (hx : a.eval x = .slice (some ⟨w.heap.size, 0, none⟩) 1 1) (hn : n < 1073741824) (hbytes : bytes ≤ 4096) (hbase : base ≤ w.heap.size)
    (h : ∀ v' w', w'.ownsRow base e size v' (n + 1) (xs ++ us.toList) → w.grownBy w' v.ownBlock → (v'.ownBlock = v.ownBlock ∨ ∃ k, v'.ownBlock = some k ∧ w.heap.size ≤ k) → wpList P ops Q rest (a.put o.dst v') w') :
    wpList P ops Q (o :: rest) a (w.alloc (.cells us e)) := by
  refine wpList_append_own_at (w := w.alloc (.cells us e)) hgd s x t ho base e i z size bytes ht hi hz hsize hby hzs hsz v n xs hs (hown.alloc _) ⟨w.heap.size, 0, none⟩ 1 1 us.toList hx (by simp [hus]) ?_ h1 ?_ ?_ ?_ ?_
  · intro j u hj
    have := World.cell?_alloc_mark w us e (0, 0) j
    rw [Array.getElem?_toList] at hj
    rw [← hj, ← this]
    by_cases hj0 : j = 0
    · subst hj0
      rfl
    · simp [Addr.add, hj0]
  · unfold maxLen; omega
  · calc (n + 1) * bytes ≤ 1073741824 * 4096 := Nat.mul_le_mul (by omega) hbytes
      _ ≤ _ := by decide
  · simp; omega
  · intro v' w' ho' hg _ hat
    have hg0 : w.grownBy w' v.ownBlock := by
      have ha := World.grownBy_alloc w (.cells us e) v.ownBlock
      exact ⟨hg.os.trans ha.os, hg.tape.trans ha.tape, hg.output.trans ha.output, Nat.le_trans ha.size hg.size, fun k hk hne => (hg.block k (Nat.lt_of_lt_of_le hk ha.size) hne).trans (ha.block k hk hne)⟩
    refine h v' w' ho' hg0 ?_
    rcases hat with hat | hat
    · exact .inl hat
    · exact .inr ⟨_, hat, by simp⟩

/-- .. where the newest block's number is written otherwise -/
theorem wpList_append_elem' {P : Program} {w : World} {ops : Array Oper} {rest : List Oper} {o : Oper} {a : Act} {Q : Exit → Act → World → Prop} (hgd : o.guard = none) (s x : Operand) (t : TypeId)
    (ho : o.op = .call { callee := .builtin .append, args := #[s, x], argTypes := #[t, t] })
    (base : Nat) (e : TypeId) (i : TypeInfo) (z : Value) (size bytes : Nat) (ht : P.underlying t = some (.slice e)) (hi : P.info? e = some i) (hz : i.zero = some z)
    (hsize : i.size = size) (hby : i.bytes = bytes) (hzs : z.cells.size = size) (hsz : 0 < size)
    (v : Value) (n : Nat) (xs : List Value) (hs : a.eval s = v) (hown : w.ownsRow base e size v n xs) (us : Array Value) (hus : us.size = size) (h1 : ∀ u ∈ us.toList, u.oneCell' = true)
    (k : Nat) (hx : a.eval x = .slice (some ⟨k, 0, none⟩) 1 1) (hk : k = w.heap.size) (hn : n < 1073741824) (hbytes : bytes ≤ 4096) (hbase : base ≤ w.heap.size)
    (h : ∀ v' w', w'.ownsRow base e size v' (n + 1) (xs ++ us.toList) → w.grownBy w' v.ownBlock → (v'.ownBlock = v.ownBlock ∨ ∃ k, v'.ownBlock = some k ∧ w.heap.size ≤ k) → wpList P ops Q rest (a.put o.dst v') w') :
    wpList P ops Q (o :: rest) a (w.alloc (.cells us e)) := by
  subst hk
  exact wpList_append_elem hgd s x t ho base e i z size bytes ht hi hz hsize hby hzs hsz v n xs hs hown us hus h1 hx hn hbytes hbase h

end Go.Proofs.YtjloiclbknfomaaGreatDoor

namespace Go.Proofs.YtjloiclbknfomaaGreatDoor
open Go

theorem wpS_region_recover {P : Program} {Q : Exit → Act → List Frame → World → Prop} {a : Act} {cs cs' : List Frame} {w : World} {id : Nat} {ops : Array Oper} {o : Oper} {rest : List Nat} {v : Value}
    (hl : List.range ops.size = 0 :: rest) (ho : ops[0]? = some o) (hw : Region.wanted o (yielded ops a.tmps) = true) (hop : (execOp a.eval o).run P w = .ok .recover w)
    (hrec : recoverD cs = some (v, cs') ∨ (recoverD cs = none ∧ v = .nilIface ∧ cs' = cs))
    (h : wpOps P ops (fun e a w => Q e a cs' w) rest (a.put o.dst v) w) : (Code.region id ops false).wpS P Q a cs w := by
  intro b k hb hro
  obtain ⟨e, a', w', hq, harr⟩ := wp_ops rest _ _ h b k cs'
  refine ⟨e, a', cs', w', hq, .of_steps (.one step_region) ?_⟩
  rw [hl]
  have hg := stepG_op (P := P) (b := b) (k := k) (cs := cs) (w := w) (rest := rest) ho hw
  have hfin : ∀ v, (b.at a (.inRegion ops (0 :: rest) :: k)).finish v = b.at (a.put o.dst v) (.inRegion ops rest :: k) := by
    intro v; rw [Frame.finish_at, ho]; rfl
  have hk : (b.at a (.inRegion ops (0 :: rest) :: k)).kind = .deferred := hb
  have htr := tryRecover_deferred hk cs
  refine .of_steps (.one (step_lone_go ?_)) harr
  rcases hrec with hrec | ⟨hrec, rfl, rfl⟩
  · rw [hg, ← hfin]
    simp only [Frame.at] at htr ⊢
    simp [stepG.apply, hop, htr, hrec]
  · rw [hg, ← hfin]
    simp only [Frame.at] at htr ⊢
    simp [stepG.apply, hop, htr, hrec]

/-- the mode that recover() leaves the frame below in -/
def caught : FrameMode → FrameMode
  | .panicking ({ v, recovered := false, goexit := false } :: older) => .panicking ({ v, recovered := true } :: older)
  | u => u
/-- .. and what it answers -/
def thrown : FrameMode → Value
  | .panicking ({ v, recovered := false, goexit := false } :: _) => v
  | _ => .nilIface

theorem recoverD_caught (c : Frame) (cs : List Frame) :
    recoverD (c :: cs) = some (thrown c.mode, { c with mode := caught c.mode } :: cs) ∨ (recoverD (c :: cs) = none ∧ thrown c.mode = .nilIface ∧ { c with mode := caught c.mode } :: cs = c :: cs) := by
  obtain ⟨fn, tmps, todo, defers, mode, kind, roundOf⟩ := c
  cases mode with
  | run => simp [recoverD, thrown, caught]
  | returning => simp [recoverD, thrown, caught]
  | panicking chain =>
    cases chain with
    | nil => simp [recoverD, thrown, caught]
    | cons x xs =>
      obtain ⟨v, r, g⟩ := x
      cases r <;> cases g <;> simp [recoverD, thrown, caught]

theorem wp_mono2 {P : Program} {o : Oper} {a : Act} {w : World} {K K' : Act → World → Prop} {Q Q' : Exit → Act → World → Prop} (hK : ∀ a w, K a w → K' a w) (hQ : ∀ e a w, Q e a w → Q' e a w)
    (h : o.wp P a w K Q) : o.wp P a w K' Q' := by
  unfold Oper.wp at h ⊢
  generalize (execOp a.eval o).run P w = r at h ⊢
  cases r with
  | halt x w' => cases x <;> first | exact hQ _ _ _ h | exact h.elim
  | ok x w' =>
    cases x with
    | value v => exact hK _ _ h
    | skip => exact hK _ _ h
    | defer d => exact hK _ _ h
    | enter f args =>
      refine Calls.mono h fun e w'' he => ?_
      cases e with
      | returned v => exact hK _ _ he
      | panicked chain => exact hQ _ _ _ he
      | outgrown => obtain ⟨a0, w0, hq⟩ := he; exact ⟨a0, w0, hQ _ _ _ hq⟩
    | row row args => exact Rows.mono h fun v w'' hv => hK _ _ hv
    | _ => exact h.elim

theorem wpList_mono {P : Program} {ops : Array Oper} {Q Q' : Exit → Act → World → Prop} (hQ : ∀ e a w, Q e a w → Q' e a w) : ∀ (l : List Oper) (a : Act) (w : World), wpList P ops Q l a w → wpList P ops Q' l a w
  | [], a, w, h => hQ _ _ _ h
  | o :: l, a, w, h => by
    unfold wpList at h ⊢
    split
    · rename_i hw
      rw [if_pos hw] at h
      rcases h with h | ⟨h, a0, w0, hq⟩
      · exact .inl (wp_mono2 (wpList_mono hQ l) hQ h)
      · exact .inr ⟨h, a0, w0, hQ _ _ _ hq⟩
    · rename_i hw
      rw [if_neg hw] at h
      exact wpList_mono hQ l _ _ h

/-- a deferred function whose body is 'recover() and more' -/
theorem callsD_recover {P : Program} {f : FuncId} {fn : Func} {id : Nat} {o : Oper} {l : List Oper} {y : Code} {args : Array Value} {u : FrameMode} {w : World} {R : Ending → World → Prop}
    (hf : P.funcs[f]? = some fn) (hb : fn.body = some (.seq (.region id (o :: l).toArray false) y)) (hgd : o.guard = none)
    (hop : ∀ (a : Act), (execOp a.eval o).run P w = .ok .recover w)
    (h : wpList P (o :: l).toArray (Exit.then (fun a w => y.wp P (bodyPost P fn R) a w) (bodyPost P fn R)) l
      ((⟨args ++ Array.replicate (fn.ntmps - args.size) undef, []⟩ : Act).put o.dst (thrown u)) w) :
    CallsD P f args u w fun e u' w' => u' = caught u ∧ R e w' := by
  refine callsD_of_wpS hf hb fun c₀ cs hu => ?_
  apply wpS_seq
  refine wpS_region_recover (cs' := { c₀ with mode := caught u } :: cs) (v := thrown u) (o := o) (rest := List.range' 1 l.length) ?_ (by simp) (by simp [Region.wanted, hgd]) (hop _) (by subst hu; exact recoverD_caught c₀ cs) ?_
  · rw [List.range_eq_range']; simp [List.range'_succ]
  · rw [wpOps_eq_wpList l 1 (fun j => by rw [Nat.add_comm]; simp)]
    have hpost : ∀ e a w, bodyPost P fn R e a w → bodyPostS P fn c₀ cs (fun e u' w' => u' = caught u ∧ R e w') e a ({ c₀ with mode := caught u } :: cs) w := by
      intro e a w hq
      cases e with
      | normal => obtain ⟨hd, v, hr, hR⟩ := hq; exact ⟨hd, _, rfl, v, hr, rfl, hR⟩
      | ret => obtain ⟨hd, v, hr, hR⟩ := hq; exact ⟨hd, _, rfl, v, hr, rfl, hR⟩
      | panic chain => obtain ⟨hd, hR⟩ := hq; exact ⟨hd, _, rfl, rfl, hR⟩
      | exit id => exact hq.elim
      | goto l => exact hq.elim
      | outgrown => exact ⟨_, rfl, hq⟩
    refine wpList_mono ?_ l _ _ h
    intro e a w hq
    cases e with
    | normal => exact wpS_of_wp (Code.wp_mono hpost hq)
    | exit id => exact hpost (.exit id) a w hq
    | goto l => exact hpost (.goto l) a w hq
    | ret => exact hpost .ret a w hq
    | panic ch => exact hpost (.panic ch) a w hq
    | outgrown => exact hpost .outgrown a w hq
end Go.Proofs.YtjloiclbknfomaaGreatDoor

namespace Go.Proofs.YtjloiclbknfomaaGreatDoor
open Go.RowKit Go.WideShapes Go.ChangeShapes

/-- what the bound on bulk gives of each argument -/
theorem bulk_mem {H : Type} {ds : List (DataW H)} (hk : Rows.uptoSmall H ds = true) : ∀ d ∈ ds, Rows.uptoBulk d ≤ 1048576 := by
  have h : Rows.uptoBulkAll ds ≤ 1048576 := of_decide_eq_true hk
  have key : ∀ (l : List (DataW H)) (d : DataW H), d ∈ l → Rows.uptoBulk d ≤ Rows.uptoBulkAll l := by
    intro l
    induction l with
    | nil => intro d hd; cases hd
    | cons x xs ih =>
      intro d hd
      rw [Rows.uptoBulkAll]
      rcases List.mem_cons.1 hd with rfl | hd
      · omega
      · have := ih d hd
        omega
  intro d hd
  have := key ds d hd
  omega

theorem bulk_string {H : Type} {s : ByteArray} (h : Rows.uptoBulk (DataW.lit (H := H) (.string s.data.toList)) ≤ 1048576) : s.size < 1048576 := by
  rw [Rows.uptoBulk] at h
  have e : s.data.toList.length = s.size := by rw [Array.length_toList]; rfl
  omega

theorem bulk_pos {H : Type} (d : DataW H) : 1 ≤ Rows.uptoBulk d := by
  cases d with
  | lit l => cases l <;> simp [Rows.uptoBulk]
  | _ => simp [Rows.uptoBulk]

theorem bulk_len {H : Type} : ∀ l : List (DataW H), l.length ≤ Rows.uptoBulkAll l
  | [] => by simp
  | d :: l => by
    rw [Rows.uptoBulkAll, List.length_cons]
    have h1 := bulk_pos d
    have h2 := bulk_len l
    omega

theorem bulk_slice {H : Type} {es sp : List (DataW H)} (h : Rows.uptoBulk (DataW.slice es sp) ≤ 1048576) : es.length < 1048576 := by
  rw [Rows.uptoBulk] at h
  have := bulk_len es
  omega

theorem bulk_elem {H : Type} {es sp : List (DataW H)} {d : DataW H} (hd : d ∈ es) (h : Rows.uptoBulk (DataW.slice es sp) ≤ 1048576) : Rows.uptoBulk d ≤ 1048576 := by
  rw [Rows.uptoBulk] at h
  have key : ∀ (l : List (DataW H)) (d : DataW H), d ∈ l → Rows.uptoBulk d ≤ Rows.uptoBulkAll l := by
    intro l
    induction l with
    | nil => intro d hd; cases hd
    | cons x xs ih =>
      intro d hd
      rw [Rows.uptoBulkAll]
      rcases List.mem_cons.1 hd with rfl | hd
      · omega
      · have := ih d hd
        omega
  have := key es d hd
  omega


/-- an address whose cell is there has no spot -/
theorem addr_plain {w : World} {a : Addr} {v : Value} (h : w.cell? a = some v) : a = ⟨a.block, a.off, none⟩ := by
  obtain ⟨b, o, s⟩ := a
  cases s with
  | none => rfl
  | some x =>
    unfold World.cell? at h
    split at h <;> simp at h

theorem add_plain (b o j : Nat) : (⟨b, o, none⟩ : Addr).add j = ⟨b, o + j, none⟩ := by
  unfold Addr.add
  split
  · rename_i h; subst h; rfl
  · rfl
end Go.Proofs.YtjloiclbknfomaaGreatDoor

namespace Go.Proofs.YtjloiclbknfomaaGreatDoor
open Go.ChangeShapes Go.WideShapes Go.Deep Go.RowKit

section
variable {H : Type} {enc : TypeId × Value → H} {P : Program} {w : World} {base : Nat} {spare : Nat → Bool} {held : Bool}
theorem open_slice_fields {t e : TypeId} {fs : Array Field} {fuel : Nat} {cs : List Value} {x : DataW H × List MemPlace} (ht : P.underlying t = some (.slice e)) (he : P.underlying e = some (.struct fs))
    (hone : oneCellFields P fs = true) (hC : P.cellsOf e = fs.size) (h : DataW.trod enc P w base spare held fuel t cs = some x) :
    (cs = [.slice none 0 0] ∧ x = (.nil, [])) ∨
    ∃ (a : Addr) (len cap m : Nat) (D : Nat → DataW H) (Pl : Nat → List MemPlace), cs = [.slice (some a) len cap] ∧ base ≤ a.block ∧ len ≤ cap ∧ cap ≤ maxLen ∧ m = (if spare a.block then cap else len) ∧
      x = (.slice ((List.range len).map D) ((List.range (m - len)).map fun j => D (len + j)), MemPlace.row a (m * fs.size) ++ (List.range m).flatMap Pl) ∧
      ∀ i, i < m → ∃ (ys : List (DataW H × List MemPlace)) (n : Nat), D i = .agg (ys.map (·.1)) ∧ Pl i = ys.flatMap (·.2) ∧ ys.length = fs.size ∧
        ∀ (j : Nat) (f : Field), fs[j]? = some f → ∃ (v : Value) (y : DataW H × List MemPlace), w.cell? (a.add (i * fs.size + j)) = some v ∧ ys[j]? = some y ∧ DataW.trod enc P w base spare held n f.type [v] = some y := by
  rcases open_slice ht h with h0 | ⟨a, len, cap, m, n, D, Pl, hcs, hb, hl, hm, hmm, hx, hi⟩
  · exact .inl h0
  · refine .inr ⟨a, len, cap, m, D, Pl, hcs, hb, hl, hm, hmm, by rw [hC] at hx; exact hx, fun i him => ?_⟩
    obtain ⟨cs', hc, ht'⟩ := hi i him
    rw [hC] at hc
    obtain ⟨ys, n', hn', hy, hlen, hyl, hf⟩ := DataW.trod_struct he ht'
    obtain ⟨_, hcl, hat⟩ := World.cells?_some hc
    simp only [Prod.mk.injEq] at hy
    refine ⟨ys, n', hy.1, hy.2, hyl, fun j f hj => ?_⟩
    obtain ⟨ho, hk⟩ := hone_of hone j f hj
    have hjl : j < fs.size := (Array.getElem?_eq_some_iff.1 hj).1
    have hcell := hat j hjl
    have hv : cs'[j]? = some (cs'[j]'(by omega)) := List.getElem?_eq_getElem (by omega)
    have h1 := hf j f hj
    rw [ho, hk] at h1
    have hone' : (cs'.drop j).take 1 = [cs'[j]'(by omega)] := by
      rw [List.drop_eq_getElem_cons (by omega)]
      rfl
    rw [hone'] at h1
    have hys : ys[j]? = some (ys[j]'(by omega)) := List.getElem?_eq_getElem (by omega)
    refine ⟨_, _, ?_, hys, h1.trans hys⟩
    rw [← Go.Deep.add_add, hcell, hv]
end

/-- .. in the form that a walk wants: a cell for each field of each element that the length reaches -/
theorem open_rows {H : Type} {enc : TypeId × Value → H} {W : World} {base : Nat} {t e : TypeId} {fs : Array Field} {v : Value} {d : DataW H} {ps : List MemPlace} (ht : Tryz.prog.underlying t = some (.slice e)) (he : Tryz.prog.underlying e = some (.struct fs))
    (hone : oneCellFields Tryz.prog fs = true) (hC : Tryz.prog.cellsOf e = fs.size) (hv : Value.okWide Tryz.prog W .any base t v) (h : DataW.Trod enc Tryz.prog W 0 (fun _ => true) true t v d ps) (hk : Rows.uptoBulk d ≤ 1048576) :
    ∃ (A : Option Addr) (n c : Nat) (D : Nat → DataW H), v = .slice A n c ∧ n < 1048576 ∧ Rows.uptoBulkAll ((List.range n).map D) ≤ 1048576 ∧ ∃ a : Addr, (0 < n → A = some a) ∧
      ∀ i, i < n → ∃ (ys : List (DataW H × List MemPlace)) (k : Nat), D i = .agg (ys.map (·.1)) ∧ ys.length = fs.size ∧
        ∀ (j : Nat) (f : Field), fs[j]? = some f → ∃ (u : Value) (y : DataW H × List MemPlace), W.cell? (a.add (i * fs.size + j)) = some u ∧ ys[j]? = some y ∧ DataW.trod enc Tryz.prog W 0 (fun _ => true) true k f.type [u] = some y := by
  obtain ⟨a0, len, cap, rfl⟩ := okWide_slice ht hv
  obtain ⟨fuel, hf⟩ := h
  rcases open_slice_fields ht he hone hC hf with ⟨hcs, hx⟩ | ⟨a, len', cap', m, D, Pl, hcs, hb, hl, hm, hmm, hx, hcell⟩
  · simp [Value.cells] at hcs
    obtain ⟨rfl, rfl, rfl⟩ := hcs
    exact ⟨none, 0, 0, fun _ => .nil, rfl, by omega, by simp [Rows.uptoBulkAll], ⟨0, 0, none⟩, fun h => absurd h (by omega), fun i hi => absurd hi (by omega)⟩
  · simp [Value.cells] at hcs
    obtain ⟨rfl, rfl, rfl⟩ := hcs
    injection hx with hd _
    subst hd
    have hlen : len < 1048576 := by simpa using bulk_slice hk
    have hlm : len ≤ m := by rw [hmm]; split <;> omega
    refine ⟨some a, len, cap, D, rfl, hlen, ?_, a, fun _ => rfl, fun i hi => ?_⟩
    · rw [Rows.uptoBulk] at hk
      omega
    · obtain ⟨ys, k, h1, _, h3, h4⟩ := hcell i (by omega)
      exact ⟨ys, k, h1, h3, h4⟩
end Go.Proofs.YtjloiclbknfomaaGreatDoor
