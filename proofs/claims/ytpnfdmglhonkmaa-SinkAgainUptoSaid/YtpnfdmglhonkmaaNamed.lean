/- wire.named: a message with just the fields that its kind names. -/
import Derived.Test.YtpnfdmglhonkmaaBlk
import Derived.Test.YtpnfdmglhonkmaaMsg
set_option maxRecDepth 100000
namespace Go.Proofs.Ytpnfdmglhonkmaa
open Go.RowKit

def Ms (w : World) (g : Nat) (m : Mg) : Prop := Cells w g 61 m.cells

theorem Ms.all {w : World} {g : Nat} {m : Mg} (h : Ms w g m) : w.cell? ⟨g, 0, none⟩ = some (.int .i64 m.kind) ∧ w.cell? ⟨g, 1, none⟩ = some (.int .i64 m.sess) ∧ w.cell? ⟨g, 2, none⟩ = some (.int .i64 m.num) ∧ w.cell? ⟨g, 3, none⟩ = some (.int .i64 m.job) ∧ w.cell? ⟨g, 4, none⟩ = some (.int .i64 m.badge) ∧ w.cell? ⟨g, 5, none⟩ = some (.int .i64 m.idx) ∧ w.cell? ⟨g, 6, none⟩ = some (.int .i64 m.cnt) ∧ w.cell? ⟨g, 7, none⟩ = some (.int .i64 m.code) ∧ w.cell? ⟨g, 8, none⟩ = some (.int .u64 m.bits) ∧ w.cell? ⟨g, 9, none⟩ = some (.string m.text) ∧ w.cell? ⟨g, 10, none⟩ = some (.string m.prog) :=
  ⟨h.cell rfl, h.cell rfl, h.cell rfl, h.cell rfl, h.cell rfl, h.cell rfl, h.cell rfl, h.cell rfl, h.cell rfl, h.cell rfl, h.cell rfl⟩

set_option maxHeartbeats 1000000 in
theorem Ms.stored {w : World} {g : Nat} {Z : Mg} (hz : Ms w g Z) (M : Mg) : Ms (((((((((((w.setCell ⟨g, 0, none⟩ (.int .i64 M.kind)).setCell ⟨g, 1, none⟩ (.int .i64 M.sess)).setCell ⟨g, 2, none⟩ (.int .i64 M.num)).setCell ⟨g, 3, none⟩ (.int .i64 M.job)).setCell ⟨g, 4, none⟩ (.int .i64 M.badge)).setCell ⟨g, 5, none⟩ (.int .i64 M.idx)).setCell ⟨g, 6, none⟩ (.int .i64 M.cnt)).setCell ⟨g, 7, none⟩ (.int .i64 M.code)).setCell ⟨g, 8, none⟩ (.int .u64 M.bits)).setCell ⟨g, 9, none⟩ (.string M.text)).setCell ⟨g, 10, none⟩ (.string M.prog)) g M := by
  unfold Ms at hz
  have h := (((((((((((hz.set 0 (.int .i64 M.kind)).set 1 (.int .i64 M.sess)).set 2 (.int .i64 M.num)).set 3 (.int .i64 M.job)).set 4 (.int .i64 M.badge)).set 5 (.int .i64 M.idx)).set 6 (.int .i64 M.cnt)).set 7 (.int .i64 M.code)).set 8 (.int .u64 M.bits)).set 9 (.string M.text)).set 10 (.string M.prog))
  have e : (((((((((((Z.cells.setIfInBounds 0 (.int .i64 M.kind)).setIfInBounds 1 (.int .i64 M.sess)).setIfInBounds 2 (.int .i64 M.num)).setIfInBounds 3 (.int .i64 M.job)).setIfInBounds 4 (.int .i64 M.badge)).setIfInBounds 5 (.int .i64 M.idx)).setIfInBounds 6 (.int .i64 M.cnt)).setIfInBounds 7 (.int .i64 M.code)).setIfInBounds 8 (.int .u64 M.bits)).setIfInBounds 9 (.string M.text)).setIfInBounds 10 (.string M.prog)) = M.cells := by simp [Mg.cells]
  rw [e] at h
  exact h

def SetPost (gn : Nat) (n' : Mg) (w : World) (x : Ending) (w' : World) : Prop := x = .returned (.tuple #[]) ∧ Ms w' gn n' ∧ w.grownBy w' (some gn)

set_option maxHeartbeats 400000 in
theorem named1_any (gn gm : Nat) (m n : Mg) (w : World) (hm : Ms w gm m) (hn : Ms w gn n) :
    Calls Try.prog 73 #[.pointer (some ⟨gn, 0, none⟩), .pointer (some ⟨gm, 0, none⟩)] w (SetPost gn (m.with1 n 115) w) := by
  have c1 : w.cell? ⟨gm, 1, none⟩ = some (m.cells[1]) := hm.cell rfl
  have d1 := hn.cell (j := 1) rfl
  have f1 := hn.fz 1
  go_enter Try.func73, Try.ntmps73
  go_wp2
  go_end0
  exact ⟨rfl, (hn.set 1 _), only_set (only_refl _ _) (.inl rfl) _⟩

set_option maxHeartbeats 400000 in
theorem named2_any (gn gm : Nat) (m n : Mg) (w : World) (hm : Ms w gm m) (hn : Ms w gn n) :
    Calls Try.prog 74 #[.pointer (some ⟨gn, 0, none⟩), .pointer (some ⟨gm, 0, none⟩)] w (SetPost gn (m.with1 n 110) w) := by
  have c2 : w.cell? ⟨gm, 2, none⟩ = some (m.cells[2]) := hm.cell rfl
  have d2 := hn.cell (j := 2) rfl
  have f2 := hn.fz 2
  go_enter Try.func74, Try.ntmps74
  go_wp2
  go_end0
  exact ⟨rfl, (hn.set 2 _), only_set (only_refl _ _) (.inl rfl) _⟩

set_option maxHeartbeats 400000 in
theorem named3_any (gn gm : Nat) (m n : Mg) (w : World) (hm : Ms w gm m) (hn : Ms w gn n) :
    Calls Try.prog 75 #[.pointer (some ⟨gn, 0, none⟩), .pointer (some ⟨gm, 0, none⟩)] w (SetPost gn (m.with1 n 106) w) := by
  have c3 : w.cell? ⟨gm, 3, none⟩ = some (m.cells[3]) := hm.cell rfl
  have d3 := hn.cell (j := 3) rfl
  have f3 := hn.fz 3
  go_enter Try.func75, Try.ntmps75
  go_wp2
  go_end0
  exact ⟨rfl, (hn.set 3 _), only_set (only_refl _ _) (.inl rfl) _⟩

set_option maxHeartbeats 400000 in
theorem named4_any (gn gm : Nat) (m n : Mg) (w : World) (hm : Ms w gm m) (hn : Ms w gn n) :
    Calls Try.prog 76 #[.pointer (some ⟨gn, 0, none⟩), .pointer (some ⟨gm, 0, none⟩)] w (SetPost gn (m.with1 n 98) w) := by
  have c4 : w.cell? ⟨gm, 4, none⟩ = some (m.cells[4]) := hm.cell rfl
  have d4 := hn.cell (j := 4) rfl
  have f4 := hn.fz 4
  go_enter Try.func76, Try.ntmps76
  go_wp2
  go_end0
  exact ⟨rfl, (hn.set 4 _), only_set (only_refl _ _) (.inl rfl) _⟩

set_option maxHeartbeats 400000 in
theorem named5_any (gn gm : Nat) (m n : Mg) (w : World) (hm : Ms w gm m) (hn : Ms w gn n) :
    Calls Try.prog 77 #[.pointer (some ⟨gn, 0, none⟩), .pointer (some ⟨gm, 0, none⟩)] w (SetPost gn (m.with1 n 105) w) := by
  have c5 : w.cell? ⟨gm, 5, none⟩ = some (m.cells[5]) := hm.cell rfl
  have d5 := hn.cell (j := 5) rfl
  have f5 := hn.fz 5
  go_enter Try.func77, Try.ntmps77
  go_wp2
  go_end0
  exact ⟨rfl, (hn.set 5 _), only_set (only_refl _ _) (.inl rfl) _⟩

set_option maxHeartbeats 400000 in
theorem named6_any (gn gm : Nat) (m n : Mg) (w : World) (hm : Ms w gm m) (hn : Ms w gn n) :
    Calls Try.prog 78 #[.pointer (some ⟨gn, 0, none⟩), .pointer (some ⟨gm, 0, none⟩)] w (SetPost gn (m.with1 n 99) w) := by
  have c6 : w.cell? ⟨gm, 6, none⟩ = some (m.cells[6]) := hm.cell rfl
  have d6 := hn.cell (j := 6) rfl
  have f6 := hn.fz 6
  go_enter Try.func78, Try.ntmps78
  go_wp2
  go_end0
  exact ⟨rfl, (hn.set 6 _), only_set (only_refl _ _) (.inl rfl) _⟩

set_option maxHeartbeats 400000 in
theorem named7_any (gn gm : Nat) (m n : Mg) (w : World) (hm : Ms w gm m) (hn : Ms w gn n) :
    Calls Try.prog 79 #[.pointer (some ⟨gn, 0, none⟩), .pointer (some ⟨gm, 0, none⟩)] w (SetPost gn (m.with1 n 114) w) := by
  have c7 : w.cell? ⟨gm, 7, none⟩ = some (m.cells[7]) := hm.cell rfl
  have d7 := hn.cell (j := 7) rfl
  have f7 := hn.fz 7
  have c8 : w.cell? ⟨gm, 8, none⟩ = some (m.cells[8]) := hm.cell rfl
  have d8 := hn.cell (j := 8) rfl
  have f8 := hn.fz 8
  go_enter Try.func79, Try.ntmps79
  go_wp2
  go_end0
  have h := (hn.set 7 (.int .i64 m.code)).set 8 (.int .u64 m.bits)
  exact ⟨rfl, by simpa [Ms, Mg.with1] using h, by (refine only_set ?_ (.inl rfl) _); exact only_set (only_refl _ _) (.inl rfl) _⟩

set_option maxHeartbeats 400000 in
theorem named8_any (gn gm : Nat) (m n : Mg) (w : World) (hm : Ms w gm m) (hn : Ms w gn n) :
    Calls Try.prog 80 #[.pointer (some ⟨gn, 0, none⟩), .pointer (some ⟨gm, 0, none⟩)] w (SetPost gn (m.with1 n 116) w) := by
  have c9 : w.cell? ⟨gm, 9, none⟩ = some (m.cells[9]) := hm.cell rfl
  have d9 := hn.cell (j := 9) rfl
  have f9 := hn.fz 9
  go_enter Try.func80, Try.ntmps80
  go_wp2
  go_end0
  exact ⟨rfl, (hn.set 9 _), only_set (only_refl _ _) (.inl rfl) _⟩

set_option maxHeartbeats 400000 in
theorem named9_any (gn gm : Nat) (m n : Mg) (w : World) (hm : Ms w gm m) (hn : Ms w gn n) :
    Calls Try.prog 81 #[.pointer (some ⟨gn, 0, none⟩), .pointer (some ⟨gm, 0, none⟩)] w (SetPost gn (m.with1 n 112) w) := by
  have c10 : w.cell? ⟨gm, 10, none⟩ = some (m.cells[10]) := hm.cell rfl
  have d10 := hn.cell (j := 10) rfl
  have f10 := hn.fz 10
  go_enter Try.func81, Try.ntmps81
  go_wp2
  go_end0
  exact ⟨rfl, (hn.set 10 _), only_set (only_refl _ _) (.inl rfl) _⟩

-- NAMED
end Go.Proofs.Ytpnfdmglhonkmaa
