/- A machine in memory: what its blocks say, what keeps it, what a store leaves of it. -/
import Derived.Test.YtjloiclbknfomaaGreatDoorKp2
set_option maxRecDepth 100000
namespace Go.Proofs.YtjloiclbknfomaaGreatDoor
open Go.RowKit Ieee

def U (n : Nat) : Value := .int .u64 (n : Int)
def I (n : Nat) : Value := .int .i64 (n : Int)
def Ins.cells (x : Ins) : List Value := [.int .i64 x.op, .int .i64 x.a, .int .i64 x.b, .int .i64 x.c, .int .i64 x.n, .int .u64 (x.k : Int)]
def Mach.cells (m : Mach) (cs nv pv : Value) : Array Value :=
  #[.int .i64 (m.fuel : Int), cs, .int .i64 (m.at_ : Int), .int .i64 (m.done : Int), .int .u64 (m.regs.getD 0 0 : Nat), .int .u64 (m.regs.getD 1 0 : Nat), .int .u64 (m.regs.getD 2 0 : Nat), .int .u64 (m.regs.getD 3 0 : Nat),
    .int .u64 (m.regs.getD 4 0 : Nat), .int .u64 (m.regs.getD 5 0 : Nat), .int .u64 (m.regs.getD 6 0 : Nat), .int .u64 (m.regs.getD 7 0 : Nat), nv, pv, .int .i64 (m.chunks : Int), .int .i64 (m.pieces : Int), .bool m.over, .int .i64 m.rcode, .int .u64 (m.rbits : Int)]

theorem cells_reg (m : Mach) (cs nv pv : Value) (a : Nat) (ha : a < 8) : (m.cells cs nv pv)[4 + a]? = some (.int .u64 (m.regs.getD a 0 : Nat)) := by
  match a, ha with
  | 0, _ => rfl
  | 1, _ => rfl
  | 2, _ => rfl
  | 3, _ => rfl
  | 4, _ => rfl
  | 5, _ => rfl
  | 6, _ => rfl
  | 7, _ => rfl
theorem list8 {α : Type} {l : List α} (h : l.length = 8) : ∃ a b c d e f g i, l = [a, b, c, d, e, f, g, i] := by
  match l, h with
  | [a, b, c, d, e, f, g, i], _ => exact ⟨a, b, c, d, e, f, g, i, rfl⟩
theorem cells_set (m : Mach) (cs nv pv : Value) (a v : Nat) (ha : a < 8) (hr : m.regs.length = 8) : ({ m with regs := m.regs.set a v } : Mach).cells cs nv pv = (m.cells cs nv pv).setIfInBounds (4 + a) (.int .u64 (v : Nat)) := by
  obtain ⟨r0, r1, r2, r3, r4, r5, r6, r7, hl⟩ := list8 hr
  unfold Mach.cells
  simp only [hl]
  match a, ha with
  | 0, _ => rfl
  | 1, _ => rfl
  | 2, _ => rfl
  | 3, _ => rfl
  | 4, _ => rfl
  | 5, _ => rfl
  | 6, _ => rfl
  | 7, _ => rfl

/-- a machine's block and its rows -/
structure Mw (w : World) (g : Nat) (cs nv pv : Value) (m : Mach) : Prop where
  cells : Cells w g 61 (m.cells cs nv pv)
  code : w.ownsRow 0 77 6 cs m.code.length (m.code.flatMap Ins.cells)
  nums : w.ownsRow 0 25 1 nv m.nums.length (m.nums.map U)
  places : w.ownsRow 0 3 1 pv m.places.length (m.places.map I)
/-- the blocks that a machine may turn -/
def mOwn (g : Nat) (nv pv : Value) : List Nat := g :: ((match nv.ownBlock with | some k => [k] | none => []) ++ (match pv.ownBlock with | some k => [k] | none => []))
/-- a row behind a call: the one that was, or a new one -/
def Anew (w : World) (v v' : Value) : Prop := v'.ownBlock = v.ownBlock ∨ ∃ k, v'.ownBlock = some k ∧ w.heap.size ≤ k
theorem Anew.refl (w : World) (v : Value) : Anew w v v := .inl rfl

section
variable {w w' : World} {g : Nat} {cs nv pv : Value} {m : Mach}
theorem own_ne_block {t t' : TypeId} {base size n : Nat} {v : Value} {xs : List Value} {c : Array Value} (h : w.ownsRow base t size v n xs) (hc : Cells w g t' c) (hne : t ≠ t') : ∀ k, v.ownBlock = some k → k ≠ g := by
  intro k hk
  obtain ⟨cur, hcur⟩ := own_block_type h hk
  exact block_ne hcur hc hne
theorem own_ne_own {t t' : TypeId} {base base' size size' n n' : Nat} {v v' : Value} {xs xs' : List Value} (h : w.ownsRow base t size v n xs) (h' : w.ownsRow base' t' size' v' n' xs') (hne : t ≠ t') : ∀ k k', v.ownBlock = some k → v'.ownBlock = some k' → k ≠ k' := by
  intro k k' hk hk'
  obtain ⟨cur, hcur⟩ := own_block_type h hk
  obtain ⟨cur', hcur'⟩ := own_block_type h' hk'
  exact block_ne hcur hcur' hne
theorem Mw.lt (h : Mw w g cs nv pv m) : g < w.heap.size := h.cells.lt
theorem Mw.turns {S : List Nat} (h : Mw w g cs nv pv m) (ht : Turns S w w') (hg : g ∉ S) (hc : ∀ k, cs.ownBlock = some k → k ∉ S) (hn : ∀ k, nv.ownBlock = some k → k ∉ S) (hp : ∀ k, pv.ownBlock = some k → k ∉ S) : Mw w' g cs nv pv m :=
  ⟨h.cells.turns ht hg, row_turns h.code ht hc, row_turns h.nums ht hn, row_turns h.places ht hp⟩
theorem Mw.keep (h : Mw w g cs nv pv m) (hb : Below w.heap.size w w') : Mw w' g cs nv pv m := h.turns (Turns.of_below (S := []) hb) (by simp) (by simp) (by simp) (by simp)
theorem Mw.alloc (h : Mw w g cs nv pv m) (o : Obj) : Mw (w.alloc o) g cs nv pv m := h.keep ((Below.refl _ _).alloc (Nat.le_refl _) o)
theorem Mw.drewN (h : Mw w g cs nv pv m) (n : Nat) : Mw (w.drewN n) g cs nv pv m := ⟨h.cells, h.code, h.nums, h.places⟩
theorem Mw.drew (h : Mw w g cs nv pv m) : Mw w.drew g cs nv pv m := ⟨h.cells, h.code, h.nums, h.places⟩
/-- its block turned, its rows as they were -/
theorem Mw.block {m' : Mach} (h : Mw w g cs nv pv m) (ht : Turns [g] w w') (hc : Cells w' g 61 (m'.cells cs nv pv)) (h1 : m'.code = m.code) (h2 : m'.nums = m.nums) (h3 : m'.places = m.places) : Mw w' g cs nv pv m' := by
  have a := own_ne_block h.code h.cells (by decide)
  have b := own_ne_block h.nums h.cells (by decide)
  have c := own_ne_block h.places h.cells (by decide)
  refine ⟨hc, ?_, ?_, ?_⟩
  · rw [h1]; exact row_turns h.code ht fun k hk => by simpa using a k hk
  · rw [h2]; exact row_turns h.nums ht fun k hk => by simpa using b k hk
  · rw [h3]; exact row_turns h.places ht fun k hk => by simpa using c k hk
theorem Mw.far (h : Mw w g cs nv pv m) {x : Addr} (hx : ∀ k, (k = g ∨ cs.ownBlock = some k ∨ nv.ownBlock = some k ∨ pv.ownBlock = some k) → k ≠ x.block) (u : Value) : Mw (w.setCell x u) g cs nv pv m :=
  h.turns (S := [x.block]) ((Turns.refl _ _).set (.inl (by simp)) u) (by simpa using hx g (.inl rfl)) (fun k hk => by simpa using hx k (.inr (.inl hk))) (fun k hk => by simpa using hx k (.inr (.inr (.inl hk)))) (fun k hk => by simpa using hx k (.inr (.inr (.inr hk))))
/-- a block of another type is none of its -/
theorem Mw.other (h : Mw w g cs nv pv m) {b : Nat} {t : TypeId} {c : Array Value} (hb : Cells w b t c) (h1 : t ≠ 61) (h2 : t ≠ 77) (h3 : t ≠ 25) (h4 : t ≠ 3) : ∀ k, (k = g ∨ cs.ownBlock = some k ∨ nv.ownBlock = some k ∨ pv.ownBlock = some k) → k ≠ b := by
  intro k hk
  rcases hk with rfl | hk | hk | hk
  · exact block_ne h.cells hb (Ne.symm h1)
  · exact own_ne_block h.code hb (Ne.symm h2) k hk
  · exact own_ne_block h.nums hb (Ne.symm h3) k hk
  · exact own_ne_block h.places hb (Ne.symm h4) k hk
theorem Mw.own_lt (h : Mw w g cs nv pv m) : ∀ k ∈ mOwn g nv pv, k < w.heap.size := by
  intro k hk
  unfold mOwn at hk
  rcases List.mem_cons.1 hk with rfl | hk
  · exact h.lt
  rcases List.mem_append.1 hk with hk | hk
  · cases hn : nv.ownBlock with
    | none => simp [hn] at hk
    | some b =>
      simp [hn] at hk
      exact hk ▸ (h.nums.lt b hn).2
  · cases hn : pv.ownBlock with
    | none => simp [hn] at hk
    | some b =>
      simp [hn] at hk
      exact hk ▸ (h.places.lt b hn).2
end
theorem mOwn_g (g : Nat) (nv pv : Value) : g ∈ mOwn g nv pv := by simp [mOwn]
theorem mOwn_n {g k : Nat} {nv pv : Value} (h : nv.ownBlock = some k) : k ∈ mOwn g nv pv := by simp [mOwn, h]
theorem mOwn_p {g k : Nat} {nv pv : Value} (h : pv.ownBlock = some k) : k ∈ mOwn g nv pv := by simp [mOwn, h]
theorem mOwn_only (g : Nat) (nv pv : Value) {x : Nat} (h : x ∈ [g]) : x ∈ mOwn g nv pv := by simp at h; subst h; exact mOwn_g _ _ _
/-- turns of the row of numbers (or of places) are the machine's -/
theorem turns_row {w w' : World} {g : Nat} {nv pv v : Value} (h : w.grownBy w' v.ownBlock) (hv : v = nv ∨ v = pv) : Turns (mOwn g nv pv) w w' :=
  ⟨h.os, h.tape, h.output, h.size, fun k hk hn => h.block k hk fun e => hn (by rcases hv with rfl | rfl; exact mOwn_n e.symm; exact mOwn_p e.symm)⟩

/-- an instruction read off a machine's code -/
theorem code_at {w : World} {A : Option Addr} {len cap : Nat} {l : List Ins} (h : w.ownsRow 0 77 6 (.slice A len cap) l.length (l.flatMap Ins.cells)) {i : Nat} {x : Ins} (hx : l[i]? = some x) : ∃ b, A = some ⟨b, 0, none⟩ ∧ len = l.length ∧ b < w.heap.size ∧ InsAt w b (i * 6) x := by
  rcases own_shape h with ⟨hv, hn⟩ | ⟨b, cap', hv, _⟩
  · have : l = [] := List.eq_nil_of_length_eq_zero hn
    subst this
    simp at hx
  · injection hv with hA hl hc
    subst hA hl hc
    refine ⟨b, rfl, rfl, (h.lt b rfl).2, ?_⟩
    have hi : i < l.length := (List.getElem?_eq_some_iff.1 hx).1
    have key : ∀ (l : List Ins) (i j : Nat) (x : Ins), l[i]? = some x → j < 6 → (l.flatMap Ins.cells)[i * 6 + j]? = x.cells[j]? := by
      intro l
      induction l with
      | nil => intro i j x h; simp at h
      | cons y l ih =>
        intro i j x h hj
        cases i with
        | zero =>
          simp at h
          subst h
          rw [List.flatMap_cons, List.getElem?_append_left (by simp [Ins.cells]; omega)]
          simp
        | succ i =>
          simp at h
          rw [List.flatMap_cons, List.getElem?_append_right (by simp [Ins.cells]; omega)]
          have : (i + 1) * 6 + j - (Ins.cells y).length = i * 6 + j := by simp [Ins.cells]; omega
          rw [this]
          exact ih i j x h hj
    have hc : ∀ j, j < 6 → w.cell? ⟨b, i * 6 + j, none⟩ = x.cells[j]? := fun j hj => (h.cellAt (i * 6 + j) (by omega)).trans (key l i j x hx hj)
    exact ⟨hc 0 (by decide), hc 1 (by decide), hc 2 (by decide), hc 3 (by decide), hc 4 (by decide), hc 5 (by decide)⟩
/-- a slice's value -/
theorem own_slice {w : World} {base : Nat} {e : TypeId} {size : Nat} {v : Value} {n : Nat} {xs : List Value} (h : w.ownsRow base e size v n xs) : ∃ A cap, v = .slice A n cap := by
  rcases own_shape h with ⟨rfl, hn⟩ | ⟨k, cap, rfl, _⟩
  · exact ⟨none, 0, by rw [hn]⟩
  · exact ⟨_, cap, rfl⟩
/-- the last cell taken off a row of one-cell elements -/
theorem own_pop {w : World} {base : Nat} {e : TypeId} {A : Option Addr} {n cap : Nat} {xs : List Value} (h : w.ownsRow base e 1 (.slice A (n + 1) cap) (n + 1) xs) :
    ∃ b, A = some ⟨b, 0, none⟩ ∧ w.cell? ⟨b, n, none⟩ = xs[n]? ∧ n + 1 ≤ cap ∧ w.ownsRow base e 1 (.slice A n cap) n (xs.take n) := by
  rcases h.2 with ⟨hv, hn⟩ | ⟨b, cap', cur, hv, hb, hh, hle, hm, hsz, ht⟩
  · cases hn
  · injection hv with hA _ hc
    subst hA hc
    refine ⟨b, rfl, h.cellAt n (by omega), hle, ⟨?_, .inr ⟨b, cap, cur, rfl, hb, hh, by omega, hm, hsz, ?_⟩⟩⟩
    · rw [List.length_take, h.1]; omega
    · rw [← ht, List.take_take]
      congr 1
      omega
end Go.Proofs.YtjloiclbknfomaaGreatDoor
