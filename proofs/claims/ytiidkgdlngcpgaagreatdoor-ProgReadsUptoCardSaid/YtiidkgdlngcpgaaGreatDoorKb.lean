/- What walks over memory lean on (no function of the program is named): rows of the call's own, what a call leaves as it was, bytes, slices of structs opened, a deferred function that begins with recover(). -/
import Derived.Test.YtiidkgdlngcpgaaGreatDoorPk
import Derived.Test.YtiidkgdlngcpgaaGreatDoorKcell
import Derived.Lib.Hide
import Derived.Maps.AppendAt
import Derived.Deep.AppendLies
import Derived.Deep.Onto
import Derived.Laws.BytesArg
import Derived.Laws.OwnMore
import Derived.Lib.AppendStr
import Derived.Lib.Strings
import Derived.Laws.MakeOwn
import Derived.Recover
import Derived.OneCell
import Derived.Deep.RegionHeld3
import Derived.Deep.SlicePairs
import Derived.Deep.Slices
import Derived.Deep.Fields
import Derived.ChangeSame
set_option maxRecDepth 100000
namespace Go.Proofs.YtiidkgdlngcpgaaGreatDoor
open Go.RowKit

section
variable {a b c w : World}
end

section
variable {a b c w : World} {S : List Nat}
end

section
variable {w w' : World} {B size n : Nat} {A : Option Addr} {C : Nat → Value}
end

theorem Cells.turns {w w' : World} {g : Nat} {t : TypeId} {c : Array Value} {S : List Nat} (h : Cells w g t c) (hb : Turns S w w') (hg : g ∉ S) : Cells w' g t c := hb.keep h hg
theorem row_turns {w w' : World} {S : List Nat} {base : Nat} {t : TypeId} {size : Nat} {v : Value} {n : Nat} {xs : List Value} (h : w.ownsRow base t size v n xs) (ht : Turns S w w') (hS : ∀ k, v.ownBlock = some k → k ∉ S) : w'.ownsRow base t size v n xs := by
  refine ⟨h.1, ?_⟩
  rcases h.2 with hn | ⟨k, cap, cur, rfl, hb, hg, rest⟩
  · exact .inl hn
  · exact .inr ⟨k, cap, cur, rfl, hb, (ht.block k (lt_of_block hg) (hS k rfl)).trans hg, rest⟩
end Go.Proofs.YtiidkgdlngcpgaaGreatDoor

namespace Go.Proofs.YtiidkgdlngcpgaaGreatDoor
open Go.RowKit

theorem info_split {o : Option TypeInfo} {z : Value} {s b : Nat} (h : (o.map fun i => (i.zero, i.size, i.bytes)) = some (some z, s, b)) : ∃ i, o = some i ∧ i.zero = some z ∧ i.size = s ∧ i.bytes = b := by
  cases o with
  | none => simp at h
  | some i =>
    simp at h
    exact ⟨i, rfl, h.1, h.2.1, h.2.2⟩

theorem own_block_type {w : World} {base : Nat} {t : TypeId} {size : Nat} {v : Value} {n : Nat} {xs : List Value} {g : Nat} (h : w.ownsRow base t size v n xs) (hv : v.ownBlock = some g) : ∃ cur, w.heap[g]? = some (.cells cur t (0, 0)) := by
  rcases h.2 with ⟨rfl, _⟩ | ⟨g', cap, cur, rfl, _, hh, _⟩
  · simp [Value.ownBlock] at hv
  · simp [Value.ownBlock] at hv
    subst hv
    exact ⟨cur, hh⟩

theorem block_ne {w : World} {t t' : TypeId} {c c' : Array Value} {g g' : Nat} (h : w.heap[g]? = some (.cells c t (0, 0))) (h' : w.heap[g']? = some (.cells c' t' (0, 0))) (hne : t ≠ t') : g ≠ g' := by
  rintro rfl
  rw [h] at h'
  injection h' with h'
  injection h' with _ ht
  exact hne ht

theorem block_ne_map {w : World} {t : TypeId} {c : Array Value} {g g' : Nat} {es : Array MapEntry} {n : Nat} (h : w.heap[g]? = some (.cells c t (0, 0))) (h' : w.heap[g']? = some (.map es n)) : g ≠ g' := by
  rintro rfl
  rw [h] at h'
  cases h'

/-- append(s, u): u, of so many cells, lies in the newest block -/
theorem wpList_append_elem {P : Program} {w : World} {ops : Array Oper} {rest : List Oper} {o : Oper} {a : Act} {Q : Exit → Act → World → Prop} (hgd : o.guard = none) (s x : Operand) (t : TypeId)
    (ho : o.op = .call { callee := .builtin .append, args := #[s, x], argTypes := #[t, t] })
    (base : Nat) (e : TypeId) (i : TypeInfo) (z : Value) (size bytes : Nat) (ht : P.underlying t = some (.slice e)) (hi : P.info? e = some i) (hz : i.zero = some z)
    (hsize : i.size = size) (hby : i.bytes = bytes) (hzs : z.cells.size = size) (hsz : 0 < size)
    (v : Value) (n : Nat) (xs : List Value) (hs : a.eval s = v) (hown : w.ownsRow base e size v n xs) (us : Array Value) (hus : us.size = size) (h1 : ∀ u ∈ us.toList, u.oneCell' = true)
    (hx : a.eval x = .slice (some ⟨w.heap.size, 0, none⟩) 1 1) (hn : n < 1073741824) (hbytes : bytes ≤ 4096) (hbase : base ≤ w.heap.size)
    (h : ∀ v' w', w'.ownsRow base e size v' (n + 1) (xs ++ us.toList) → w.grownBy w' v.ownBlock → (v'.ownBlock = v.ownBlock ∨ ∃ k, v'.ownBlock = some k ∧ w.heap.size ≤ k) → wpList P ops Q rest (a.put o.dst v') w') :
    wpList P ops Q (o :: rest) a (w.alloc (.cells us e)) := by
  refine wpList_append_own_at (w := w.alloc (.cells us e)) hgd s x t ho base e i z size bytes ht hi hz hsize hby hzs hsz v n xs hs (hown.alloc _) ⟨w.heap.size, 0, none⟩ 1 1 us.toList hx (by simp [hus]) ?_ h1 ?_ ?_ ?_ ?_
  · intro j u hj
    have := World.cell?_alloc_mark w us e (0, 0) j
    rw [Array.getElem?_toList] at hj
    rw [← hj, ← this]
    by_cases hj0 : j = 0
    · subst hj0
      rfl
    · simp [Addr.add, hj0]
  · unfold maxLen; omega
  · calc (n + 1) * bytes ≤ 1073741824 * 4096 := Nat.mul_le_mul (by omega) hbytes
      _ ≤ _ := by decide
  · simp; omega
  · intro v' w' ho' hg _ hat
    have hg0 : w.grownBy w' v.ownBlock := by
      have ha := World.grownBy_alloc w (.cells us e) v.ownBlock
      exact ⟨hg.os.trans ha.os, hg.tape.trans ha.tape, hg.output.trans ha.output, Nat.le_trans ha.size hg.size, fun k hk hne => (hg.block k (Nat.lt_of_lt_of_le hk ha.size) hne).trans (ha.block k hk hne)⟩
    refine h v' w' ho' hg0 ?_
    rcases hat with hat | hat
    · exact .inl hat
    · exact .inr ⟨_, hat, by simp⟩

/-- .. where the newest block's number is written otherwise -/
theorem wpList_append_elem' {P : Program} {w : World} {ops : Array Oper} {rest : List Oper} {o : Oper} {a : Act} {Q : Exit → Act → World → Prop} (hgd : o.guard = none) (s x : Operand) (t : TypeId)
    (ho : o.op = .call { callee := .builtin .append, args := #[s, x], argTypes := #[t, t] })
    (base : Nat) (e : TypeId) (i : TypeInfo) (z : Value) (size bytes : Nat) (ht : P.underlying t = some (.slice e)) (hi : P.info? e = some i) (hz : i.zero = some z)
    (hsize : i.size = size) (hby : i.bytes = bytes) (hzs : z.cells.size = size) (hsz : 0 < size)
    (v : Value) (n : Nat) (xs : List Value) (hs : a.eval s = v) (hown : w.ownsRow base e size v n xs) (us : Array Value) (hus : us.size = size) (h1 : ∀ u ∈ us.toList, u.oneCell' = true)
    (k : Nat) (hx : a.eval x = .slice (some ⟨k, 0, none⟩) 1 1) (hk : k = w.heap.size) (hn : n < 1073741824) (hbytes : bytes ≤ 4096) (hbase : base ≤ w.heap.size)
    (h : ∀ v' w', w'.ownsRow base e size v' (n + 1) (xs ++ us.toList) → w.grownBy w' v.ownBlock → (v'.ownBlock = v.ownBlock ∨ ∃ k, v'.ownBlock = some k ∧ w.heap.size ≤ k) → wpList P ops Q rest (a.put o.dst v') w') :
    wpList P ops Q (o :: rest) a (w.alloc (.cells us e)) := by
  subst hk
  exact wpList_append_elem hgd s x t ho base e i z size bytes ht hi hz hsize hby hzs hsz v n xs hs hown us hus h1 hx hn hbytes hbase h

end Go.Proofs.YtiidkgdlngcpgaaGreatDoor

namespace Go.Proofs.YtiidkgdlngcpgaaGreatDoor
open Go

end Go.Proofs.YtiidkgdlngcpgaaGreatDoor

namespace Go.Proofs.YtiidkgdlngcpgaaGreatDoor
open Go.RowKit Go.WideShapes Go.ChangeShapes

/-- what the bound on bulk gives of each argument -/
theorem bulk_mem {H : Type} {ds : List (DataW H)} (hk : Rows.uptoSmall H ds = true) : ∀ d ∈ ds, Rows.uptoBulk d ≤ 1048576 := by
  have h : Rows.uptoBulkAll ds ≤ 1048576 := of_decide_eq_true hk
  have key : ∀ (l : List (DataW H)) (d : DataW H), d ∈ l → Rows.uptoBulk d ≤ Rows.uptoBulkAll l := by
    intro l
    induction l with
    | nil => intro d hd; cases hd
    | cons x xs ih =>
      intro d hd
      rw [Rows.uptoBulkAll]
      rcases List.mem_cons.1 hd with rfl | hd
      · omega
      · have := ih d hd
        omega
  intro d hd
  have := key ds d hd
  omega

theorem bulk_string {H : Type} {s : ByteArray} (h : Rows.uptoBulk (DataW.lit (H := H) (.string s.data.toList)) ≤ 1048576) : s.size < 1048576 := by
  rw [Rows.uptoBulk] at h
  have e : s.data.toList.length = s.size := by rw [Array.length_toList]; rfl
  omega

theorem bulk_pos {H : Type} (d : DataW H) : 1 ≤ Rows.uptoBulk d := by
  cases d with
  | lit l => cases l <;> simp [Rows.uptoBulk]
  | _ => simp [Rows.uptoBulk]

theorem bulk_len {H : Type} : ∀ l : List (DataW H), l.length ≤ Rows.uptoBulkAll l
  | [] => by simp
  | d :: l => by
    rw [Rows.uptoBulkAll, List.length_cons]
    have h1 := bulk_pos d
    have h2 := bulk_len l
    omega

theorem bulk_slice {H : Type} {es sp : List (DataW H)} (h : Rows.uptoBulk (DataW.slice es sp) ≤ 1048576) : es.length < 1048576 := by
  rw [Rows.uptoBulk] at h
  have := bulk_len es
  omega

theorem bulk_elem {H : Type} {es sp : List (DataW H)} {d : DataW H} (hd : d ∈ es) (h : Rows.uptoBulk (DataW.slice es sp) ≤ 1048576) : Rows.uptoBulk d ≤ 1048576 := by
  rw [Rows.uptoBulk] at h
  have key : ∀ (l : List (DataW H)) (d : DataW H), d ∈ l → Rows.uptoBulk d ≤ Rows.uptoBulkAll l := by
    intro l
    induction l with
    | nil => intro d hd; cases hd
    | cons x xs ih =>
      intro d hd
      rw [Rows.uptoBulkAll]
      rcases List.mem_cons.1 hd with rfl | hd
      · omega
      · have := ih d hd
        omega
  have := key es d hd
  omega


/-- an address whose cell is there has no spot -/
theorem addr_plain {w : World} {a : Addr} {v : Value} (h : w.cell? a = some v) : a = ⟨a.block, a.off, none⟩ := by
  obtain ⟨b, o, s⟩ := a
  cases s with
  | none => rfl
  | some x =>
    unfold World.cell? at h
    split at h <;> simp at h

theorem add_plain (b o j : Nat) : (⟨b, o, none⟩ : Addr).add j = ⟨b, o + j, none⟩ := by
  unfold Addr.add
  split
  · rename_i h; subst h; rfl
  · rfl
end Go.Proofs.YtiidkgdlngcpgaaGreatDoor

namespace Go.Proofs.YtiidkgdlngcpgaaGreatDoor
open Go.ChangeShapes Go.WideShapes Go.Deep Go.RowKit

section
variable {H : Type} {enc : TypeId × Value → H} {P : Program} {w : World} {base : Nat} {spare : Nat → Bool} {held : Bool}
theorem open_slice_fields {t e : TypeId} {fs : Array Field} {fuel : Nat} {cs : List Value} {x : DataW H × List MemPlace} (ht : P.underlying t = some (.slice e)) (he : P.underlying e = some (.struct fs))
    (hone : oneCellFields P fs = true) (hC : P.cellsOf e = fs.size) (h : DataW.trod enc P w base spare held fuel t cs = some x) :
    (cs = [.slice none 0 0] ∧ x = (.nil, [])) ∨
    ∃ (a : Addr) (len cap m : Nat) (D : Nat → DataW H) (Pl : Nat → List MemPlace), cs = [.slice (some a) len cap] ∧ base ≤ a.block ∧ len ≤ cap ∧ cap ≤ maxLen ∧ m = (if spare a.block then cap else len) ∧
      x = (.slice ((List.range len).map D) ((List.range (m - len)).map fun j => D (len + j)), MemPlace.row a (m * fs.size) ++ (List.range m).flatMap Pl) ∧
      ∀ i, i < m → ∃ (ys : List (DataW H × List MemPlace)) (n : Nat), D i = .agg (ys.map (·.1)) ∧ Pl i = ys.flatMap (·.2) ∧ ys.length = fs.size ∧
        ∀ (j : Nat) (f : Field), fs[j]? = some f → ∃ (v : Value) (y : DataW H × List MemPlace), w.cell? (a.add (i * fs.size + j)) = some v ∧ ys[j]? = some y ∧ DataW.trod enc P w base spare held n f.type [v] = some y := by
  rcases open_slice ht h with h0 | ⟨a, len, cap, m, n, D, Pl, hcs, hb, hl, hm, hmm, hx, hi⟩
  · exact .inl h0
  · refine .inr ⟨a, len, cap, m, D, Pl, hcs, hb, hl, hm, hmm, by rw [hC] at hx; exact hx, fun i him => ?_⟩
    obtain ⟨cs', hc, ht'⟩ := hi i him
    rw [hC] at hc
    obtain ⟨ys, n', hn', hy, hlen, hyl, hf⟩ := DataW.trod_struct he ht'
    obtain ⟨_, hcl, hat⟩ := World.cells?_some hc
    simp only [Prod.mk.injEq] at hy
    refine ⟨ys, n', hy.1, hy.2, hyl, fun j f hj => ?_⟩
    obtain ⟨ho, hk⟩ := hone_of hone j f hj
    have hjl : j < fs.size := (Array.getElem?_eq_some_iff.1 hj).1
    have hcell := hat j hjl
    have hv : cs'[j]? = some (cs'[j]'(by omega)) := List.getElem?_eq_getElem (by omega)
    have h1 := hf j f hj
    rw [ho, hk] at h1
    have hone' : (cs'.drop j).take 1 = [cs'[j]'(by omega)] := by
      rw [List.drop_eq_getElem_cons (by omega)]
      rfl
    rw [hone'] at h1
    have hys : ys[j]? = some (ys[j]'(by omega)) := List.getElem?_eq_getElem (by omega)
    refine ⟨_, _, ?_, hys, h1.trans hys⟩
    rw [← Go.Deep.add_add, hcell, hv]
end

/-- .. in the form that a walk wants: a cell for each field of each element that the length reaches -/
theorem open_rows {H : Type} {enc : TypeId × Value → H} {W : World} {base : Nat} {t e : TypeId} {fs : Array Field} {v : Value} {d : DataW H} {ps : List MemPlace} (ht : Tryz.prog.underlying t = some (.slice e)) (he : Tryz.prog.underlying e = some (.struct fs))
    (hone : oneCellFields Tryz.prog fs = true) (hC : Tryz.prog.cellsOf e = fs.size) (hv : Value.okWide Tryz.prog W .any base t v) (h : DataW.Trod enc Tryz.prog W 0 (fun _ => true) true t v d ps) (hk : Rows.uptoBulk d ≤ 1048576) :
    ∃ (A : Option Addr) (n c : Nat) (D : Nat → DataW H), v = .slice A n c ∧ n < 1048576 ∧ Rows.uptoBulkAll ((List.range n).map D) ≤ 1048576 ∧ ∃ a : Addr, (0 < n → A = some a) ∧
      ∀ i, i < n → ∃ (ys : List (DataW H × List MemPlace)) (k : Nat), D i = .agg (ys.map (·.1)) ∧ ys.length = fs.size ∧
        ∀ (j : Nat) (f : Field), fs[j]? = some f → ∃ (u : Value) (y : DataW H × List MemPlace), W.cell? (a.add (i * fs.size + j)) = some u ∧ ys[j]? = some y ∧ DataW.trod enc Tryz.prog W 0 (fun _ => true) true k f.type [u] = some y := by
  obtain ⟨a0, len, cap, rfl⟩ := okWide_slice ht hv
  obtain ⟨fuel, hf⟩ := h
  rcases open_slice_fields ht he hone hC hf with ⟨hcs, hx⟩ | ⟨a, len', cap', m, D, Pl, hcs, hb, hl, hm, hmm, hx, hcell⟩
  · simp [Value.cells] at hcs
    obtain ⟨rfl, rfl, rfl⟩ := hcs
    exact ⟨none, 0, 0, fun _ => .nil, rfl, by omega, by simp [Rows.uptoBulkAll], ⟨0, 0, none⟩, fun h => absurd h (by omega), fun i hi => absurd hi (by omega)⟩
  · simp [Value.cells] at hcs
    obtain ⟨rfl, rfl, rfl⟩ := hcs
    injection hx with hd _
    subst hd
    have hlen : len < 1048576 := by simpa using bulk_slice hk
    have hlm : len ≤ m := by rw [hmm]; split <;> omega
    refine ⟨some a, len, cap, D, rfl, hlen, ?_, a, fun _ => rfl, fun i hi => ?_⟩
    · rw [Rows.uptoBulk] at hk
      omega
    · obtain ⟨ys, k, h1, _, h3, h4⟩ := hcell i (by omega)
      exact ⟨ys, k, h1, h3, h4⟩
end Go.Proofs.YtiidkgdlngcpgaaGreatDoor
