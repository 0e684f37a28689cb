/- (*pack.Reader).take: so many bytes, or the panic that says they lack. -/
import Derived.Test.YtpnfdmglhonkmaaTypes
import Derived.Deep.QuietTactic
import Derived.BigQuiet
set_option maxRecDepth 100000
namespace Go.Proofs.Ytpnfdmglhonkmaa
open Go.RowKit

/-- a reader in memory: its bytes, its place, its fault -/
def Rdr (w : World) (g : Nat) (b : ByteArray) (p : Nat) (e : Int) : Prop :=
  w.heap[g]? = some (.cells #[.string b, .int .i64 (p : Int), .int .i64 e] 90 (0, 0))

section
variable {w w' : World} {g : Nat} {b : ByteArray} {p : Nat} {e : Int}
theorem Rdr.lt (h : Rdr w g b p e) : g < w.heap.size := lt_of_block h
theorem Rdr.c0 (h : Rdr w g b p e) : w.cell? ⟨g, 0, none⟩ = some (.string b) := by unfold Rdr at h; simp [World.cell?, h]
theorem Rdr.c1 (h : Rdr w g b p e) : w.cell? ⟨g, 1, none⟩ = some (.int .i64 (p : Int)) := by unfold Rdr at h; simp [World.cell?, h]
theorem Rdr.c2 (h : Rdr w g b p e) : w.cell? ⟨g, 2, none⟩ = some (.int .i64 e) := by unfold Rdr at h; simp [World.cell?, h]
theorem Rdr.fz (h : Rdr w g b p e) (i : Nat) : w.frozen? ⟨g, i, none⟩ = false := by unfold Rdr at h; simp [World.frozen?, h]
theorem Rdr.set1 (h : Rdr w g b p e) (q : Nat) : Rdr (w.setCell ⟨g, 1, none⟩ (.int .i64 (q : Int))) g b q e := by
  unfold Rdr at h ⊢
  simp [World.setCell, Array.getElem?_modify, h]
theorem Rdr.set2 (h : Rdr w g b p e) (f : Int) : Rdr (w.setCell ⟨g, 2, none⟩ (.int .i64 f)) g b p f := by
  unfold Rdr at h ⊢
  simp [World.setCell, Array.getElem?_modify, h]
theorem Rdr.far (h : Rdr w g b p e) {a : Addr} (ha : g ≠ a.block) (u : Value) : Rdr (w.setCell a u) g b p e := (Below.heap_setCell w a u g ha).trans h
theorem Rdr.alloc (h : Rdr w g b p e) (o : Obj) : Rdr (w.alloc o) g b p e := (Below.heap_alloc w o g h.lt).trans h
theorem Rdr.grown {row : Option Nat} (h : Rdr w g b p e) (hb : w.grownBy w' row) (hg : some g ≠ row) : Rdr w' g b p e := (hb.block g h.lt hg).trans h
theorem Rdr.below {k : Nat} (h : Rdr w g b p e) (hb : Below k w w') (hg : g < k) : Rdr w' g b p e := (hb.block g hg).trans h
theorem Rdr.drewN (h : Rdr w g b p e) (n : Nat) : Rdr (w.drewN n) g b p e := h
theorem Rdr.drew (h : Rdr w g b p e) : Rdr w.drew g b p e := h
end

/-- a row of bytes of the call's own stays where only a reader's block has turned -/
theorem own_kept_rdr {w w' : World} {base g : Nat} {b : ByteArray} {p : Nat} {e : Int} {v : Value} {n : Nat} {xs : List Value} (h : w.ownsRow base 5 1 v n xs) (hR : Rdr w g b p e) (hg : w.grownBy w' (some g)) : w'.ownsRow base 5 1 v n xs := by
  refine h.kept hg ?_
  rcases h.2 with ⟨rfl, _⟩ | ⟨g', cap, cur, rfl, _, hh, _⟩
  · exact .inl rfl
  · right
    intro he
    have : g' = g := by simpa [Value.ownBlock] using he
    subst this
    unfold Rdr at hR
    rw [hh] at hR
    injection hR with hR
    injection hR with _ ht
    exact absurd ht (by decide)

set_option maxHeartbeats 400000 in
theorem take_ok (g : Nat) (b : ByteArray) (p n : Nat) (e : Int) (w : World) (hR : Rdr w g b p e) (hn : p + n ≤ b.size) (hb : b.size < 4294967296) :
    Calls Try.prog 58 #[.pointer (some ⟨g, 0, none⟩), .int .i64 (n : Int)] w fun r w' => r = .returned (.string (b.extract p (p + n))) ∧ Rdr w' g b (p + n) e ∧ w.grownBy w' (some g) := by
  have h0 := hR.c0
  have h1 := hR.c1
  have hf := hR.fz 1
  have hle : ¬ (b.size : Int) - p < n := by omega
  go_enter Try.func58, Try.ntmps58
  go_wp2
  go_quiet (fail)
  go_wp2
  go_quiet (fail)
  go_wp2
  go_ret
  have e1 : ((p : Int) + n) = ((p + n : Nat) : Int) := by omega
  refine ⟨rfl, ?_, ?_⟩
  · rw [e1]
    exact ((hR.drewN _).set1 _).drewN _
  · exact only_drewN (only_set (only_drewN (only_refl _ _) _) (.inl rfl) _) _

theorem extract_one {b : ByteArray} {p : Nat} {L : List UInt8} {k : Nat} (hL : L = b.data.toList.drop p) (hk : k < L.length) : b.extract (p + k) (p + k + 1) = ⟨#[L[k]]⟩ := by
  subst hL
  apply ByteArray.ext
  apply Array.toList_inj.1
  rw [ByteArray.data_extract, Array.toList_extract]
  simp only [List.length_drop] at hk
  rw [List.extract_eq_take_drop]
  have e : p + k + 1 - (p + k) = 1 := by omega
  rw [e, List.drop_eq_getElem_cons (by omega)]
  simp

/-- what a reader gives up with -/
def gave (x : Int) : List PanicEntry := [{ v := .iface 116 (.agg #[.int .i64 x]), recovered := false }]

set_option maxHeartbeats 400000 in
theorem take_short (g : Nat) (b : ByteArray) (p n : Nat) (e : Int) (w : World) (hR : Rdr w g b p e) (hn : b.size < p + n) (hp : p ≤ b.size) (hb : b.size < 4294967296) (_hs : n < 9223372036854775808) :
    Calls Try.prog 58 #[.pointer (some ⟨g, 0, none⟩), .int .i64 (n : Int)] w fun r w' => r = .panicked (gave 20) ∧ Rdr w' g b p e ∧ w.grownBy w' (some g) := by
  have h0 := hR.c0
  have h1 := hR.c1
  have hle : (b.size : Int) - p < n := by omega
  go_enter Try.func58, Try.ntmps58
  go_wp2
  go_quiet (fail)
  go_wp2
  exact ⟨rfl, rfl, hR.drewN _, only_drewN (only_refl _ _) _⟩
end Go.Proofs.Ytpnfdmglhonkmaa
