/- Rows of instructions that a call has laid itself: append, and read as a program's code. -/
import Derived.OwnWalkIn
import Derived.RangeFuncWrites
import Derived.Test.YtiidkgdlngcpgaaGreatDoorKb
import Derived.Test.YtiidkgdlngcpgaaGreatDoorKp2
set_option maxRecDepth 100000
namespace Go.Proofs.YtiidkgdlngcpgaaGreatDoor
open Go.RowKit

def insVals (x : Ins) : List Value := [.int .i64 x.op, .int .i64 x.a, .int .i64 x.b, .int .i64 x.c, .int .i64 x.n, .int .u64 x.k]
/-- a row of instructions of the call's own -/
def RowI (w : World) (base : Nat) (v : Value) (l : List Ins) : Prop := w.ownsRow base 43 6 v l.length (l.flatMap insVals)
theorem rowI_nil (w : World) (base : Nat) : RowI w base (.slice none 0 0) [] := World.ownsRow_nil w base _ _
theorem rowI_snoc {w : World} {base : Nat} {v : Value} {l : List Ins} {x : Ins} (h : w.ownsRow base 43 6 v (l.length + 1) (l.flatMap insVals ++ insVals x)) : RowI w base v (l ++ [x]) := by
  unfold RowI
  rw [List.length_append, List.flatMap_append]
  simpa using h
theorem flat_at : ∀ (l : List Ins) (i : Nat) (x : Ins) (j : Nat), l[i]? = some x → j < 6 → (l.flatMap insVals)[i * 6 + j]? = (insVals x)[j]?
  | [], i, x, j, h, _ => by simp at h
  | y :: l, 0, x, j, h, hj => by
    have : y = x := by simpa using h
    subst this
    show (insVals y ++ l.flatMap insVals)[0 * 6 + j]? = _
    rw [Nat.zero_mul, Nat.zero_add, List.getElem?_append_left (by simpa [insVals] using hj)]
  | y :: l, i + 1, x, j, h, hj => by
    have ih := flat_at l i x j (by simpa using h) hj
    show (insVals y ++ l.flatMap insVals)[(i + 1) * 6 + j]? = _
    rw [List.getElem?_append_right (by simp [insVals]; omega), ← ih]
    congr 1
    simp [insVals]
    omega
theorem RowI.shape {w : World} {base : Nat} {v : Value} {l : List Ins} (h : RowI w base v l) : ∃ A cap, v = .slice A l.length cap := by
  rcases h.2 with ⟨rfl, h0⟩ | ⟨g, cap, cur, rfl, _⟩
  · exact ⟨none, 0, by rw [h0]⟩
  · exact ⟨_, _, rfl⟩
theorem RowI.code {w : World} {base : Nat} {A : Option Addr} {cap : Nat} {l : List Ins} (h : RowI w base (.slice A l.length cap) l) (hk : ∀ x ∈ l, x.k < 2 * signB) : CodeIn w w.heap.size A l := fun hn => by
  rcases h.2 with ⟨h1, h0⟩ | ⟨g, cap', cur, h1, hb, hg, _⟩
  · exact absurd h0 (by omega)
  · injection h1 with h1 h2 h3
    refine ⟨g, 0, h1, lt_of_block hg, fun i x hx => ⟨?_, hk x (List.mem_of_getElem? hx)⟩⟩
    have key : ∀ j u, j < 6 → (insVals x)[j]? = some u → w.cell? ⟨g, 0 + i * 6 + j, none⟩ = some u := fun j u hj hu => by
      have := h.cells (g := g) (by rw [h1]; rfl) (i * 6 + j) u ((flat_at l i x j hx hj).trans hu)
      rw [add_plain] at this
      rw [Nat.zero_add]
      rw [Nat.zero_add] at this
      exact this
    exact ⟨key 0 _ (by omega) rfl, key 1 _ (by omega) rfl, key 2 _ (by omega) rfl, key 3 _ (by omega) rfl, key 4 _ (by omega) rfl, key 5 _ (by omega) rfl⟩
theorem RowI.turns {w w' : World} {S : List Nat} {base : Nat} {v : Value} {l : List Ins} (h : RowI w base v l) (ht : Turns S w w') (hS : ∀ k, v.ownBlock = some k → k ∉ S) : RowI w' base v l := row_turns h ht hS
theorem RowI.keep {w w' : World} {base : Nat} {v : Value} {l : List Ins} (h : RowI w base v l) (hb : Below w.heap.size w w') : RowI w' base v l := own_kept h hb
theorem RowI.ne {w : World} {base g : Nat} {v : Value} {l : List Ins} {t : TypeId} {c : Array Value} (h : RowI w base v l) (hc : Cells w g t c) (ht : t ≠ 43) : ∀ k, v.ownBlock = some k → k ≠ g := fun k hk e => by
  subst e
  obtain ⟨cur, hcur⟩ := own_block_type h hk
  unfold Cells at hc
  rw [hcur] at hc
  injection hc with hc
  injection hc with h1 h2
  exact ht h2.symm
theorem ins_info : (Tryz.prog.info? 43).map (fun i => (i.zero, i.size, i.bytes)) = some (some (.agg #[.int .i64 0, .int .i64 0, .int .i64 0, .int .i64 0, .int .i64 0, .int .u64 0]), 6, 48) := by kernel_rfl

/-- append(s, x) of a struct in a round of a range over a function -/
theorem wpListIn_append_elem {F : Fence} {nF : Nat} {P : Program} {w : World} {ops : Array Oper} {rest : List Oper} {o : Oper} {a : Act} {Q : Exit → Act → World → Prop} (hgd : o.guard = none) (s x : Operand) (t : TypeId)
    (ho : o.op = .call { callee := .builtin .append, args := #[s, x], argTypes := #[t, t] })
    (base : Nat) (e : TypeId) (i : TypeInfo) (z : Value) (size bytes : Nat) (ht : P.underlying t = some (.slice e)) (hi : P.info? e = some i) (hz : i.zero = some z)
    (hsize : i.size = size) (hby : i.bytes = bytes) (hzs : z.cells.size = size) (hsz : 0 < size)
    (v : Value) (n : Nat) (xs : List Value) (hs : a.eval s = v) (hown : w.ownsRow base e size v n xs) (us : Array Value) (hus : us.size = size) (h1 : ∀ u ∈ us.toList, u.oneCell' = true)
    (hx : a.eval x = .slice (some ⟨w.heap.size, 0, none⟩) 1 1) (hn : n < 1073741824) (hbytes : bytes ≤ 4096) (hbase : base ≤ w.heap.size)
    (h : ∀ v' w', w'.ownsRow base e size v' (n + 1) (xs ++ us.toList) → w.grownBy w' v.ownBlock → wpListIn F nF P ops Q rest (a.put o.dst v') w') :
    wpListIn F nF P ops Q (o :: rest) a (w.alloc (.cells us e)) := by
  refine wpListIn_append_own (w.alloc (.cells us e)) hgd s x t ho base e i z size bytes ht hi hz hsize hby hzs hsz v n xs hs (hown.alloc _) ⟨w.heap.size, 0, none⟩ 1 1 us.toList hx (by simp [hus]) ?_ h1 ?_ ?_ ?_ ?_
  · intro j u hj
    have := World.cell?_alloc_mark w us e (0, 0) j
    rw [Array.getElem?_toList] at hj
    rw [← hj, ← this]
    by_cases hj0 : j = 0
    · subst hj0
      rfl
    · simp [Addr.add, hj0]
  · unfold maxLen; omega
  · calc (n + 1) * bytes ≤ 1073741824 * 4096 := Nat.mul_le_mul (by omega) hbytes
      _ ≤ _ := by decide
  · simp; omega
  · intro v' w' ho' hg _
    have hg0 : w.grownBy w' v.ownBlock := by
      have ha := World.grownBy_alloc w (.cells us e) v.ownBlock
      exact ⟨hg.os.trans ha.os, hg.tape.trans ha.tape, hg.output.trans ha.output, Nat.le_trans ha.size hg.size, fun k hk hne => (hg.block k (Nat.lt_of_lt_of_le hk ha.size) hne).trans (ha.block k hk hne)⟩
    exact h v' w' ho' hg0
theorem wpListIn_append_elem' {F : Fence} {nF : Nat} {P : Program} {w : World} {ops : Array Oper} {rest : List Oper} {o : Oper} {a : Act} {Q : Exit → Act → World → Prop} (hgd : o.guard = none) (s x : Operand) (t : TypeId)
    (ho : o.op = .call { callee := .builtin .append, args := #[s, x], argTypes := #[t, t] })
    (base : Nat) (e : TypeId) (i : TypeInfo) (z : Value) (size bytes : Nat) (ht : P.underlying t = some (.slice e)) (hi : P.info? e = some i) (hz : i.zero = some z)
    (hsize : i.size = size) (hby : i.bytes = bytes) (hzs : z.cells.size = size) (hsz : 0 < size)
    (v : Value) (n : Nat) (xs : List Value) (hs : a.eval s = v) (hown : w.ownsRow base e size v n xs) (us : Array Value) (hus : us.size = size) (h1 : ∀ u ∈ us.toList, u.oneCell' = true)
    (k : Nat) (hx : a.eval x = .slice (some ⟨k, 0, none⟩) 1 1) (hk : k = w.heap.size) (hn : n < 1073741824) (hbytes : bytes ≤ 4096) (hbase : base ≤ w.heap.size)
    (h : ∀ v' w', w'.ownsRow base e size v' (n + 1) (xs ++ us.toList) → w.grownBy w' v.ownBlock → wpListIn F nF P ops Q rest (a.put o.dst v') w') :
    wpListIn F nF P ops Q (o :: rest) a (w.alloc (.cells us e)) := by
  subst hk
  exact wpListIn_append_elem hgd s x t ho base e i z size bytes ht hi hz hsize hby hzs hsz v n xs hs hown us hus h1 hx hn hbytes hbase h
/-- what a round leaves: only cells have turned -/
theorem turns_keeps {W W' : World} {S : List Nat} {B : Nat} (ht : Turns S W W') (hS : ∀ k ∈ S, ∃ c t f, W.heap[k]? = some (.cells c t f)) : KeepsFrom B W W' :=
  ⟨ht.size, fun k o _ hk ho => ht.keep hk (fun hm => by
    obtain ⟨c, t, f, hc⟩ := hS k hm
    rw [hk] at hc
    injection hc with hc
    subst hc
    cases ho)⟩
theorem cells_kept {W W' : World} {row : Option Nat} {g : Nat} {t : TypeId} {c : Array Value} (h : Cells W g t c) (hg : W.grownBy W' row) (hr : ∀ r, row = some r → ∃ o : Obj, W.heap[r]? = some o ∧ o.isCells = false) : Cells W' g t c :=
  h.grown hg (fun e => by
    obtain ⟨o, ho, hc⟩ := hr g e.symm
    unfold Cells at h
    rw [h] at ho
    injection ho with ho
    subst ho
    cases hc)
theorem rowI_kept {W W' : World} {row : Option Nat} {base : Nat} {v : Value} {l : List Ins} (h : RowI W base v l) (hg : W.grownBy W' row) (hr : ∀ r, row = some r → ∃ o : Obj, W.heap[r]? = some o ∧ o.isCells = false) : RowI W' base v l :=
  World.ownsRow.kept h hg (by
    cases hv : v.ownBlock with
    | none => exact .inl rfl
    | some k =>
      refine .inr fun e => ?_
      obtain ⟨o, ho, hc⟩ := hr k e.symm
      obtain ⟨cur, hcur⟩ := own_block_type h hv
      rw [hcur] at ho
      injection ho with ho
      subst ho
      cases hc)
end Go.Proofs.YtiidkgdlngcpgaaGreatDoor
