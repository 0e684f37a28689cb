/- The machine's small methods: end, must, Over, Done, Place, Result, Reg (contracts). -/
import Derived.Test.YtjloiclbknfomaaGreatDoorKm
import Derived.Deep.RegionWith
import Derived.BigRegion
set_option maxRecDepth 100000
namespace Go.Proofs.YtjloiclbknfomaaGreatDoor
open Go.RowKit Ieee

/-- what an instruction gives up with -/
def trapped (c : Int) : List PanicEntry := [{ v := .iface 84 (.agg #[.int .i64 c]), recovered := false }]

theorem must_yes (c : Int) (w : World) : Calls Tryz.prog 58 #[.bool true, .int .i64 c] w fun e w' => e = .returned (.tuple #[]) ∧ w' = w := by
  go_enter Tryz.func58, Tryz.ntmps58
  go_wp2
  go_end0
  exact ⟨rfl, rfl⟩
theorem must_no (c : Int) (w : World) : Calls Tryz.prog 58 #[.bool false, .int .i64 c] w fun e w' => e = .panicked (trapped c) ∧ w' = w := by
  go_enter Tryz.func58, Tryz.ntmps58
  go_wp2
  exact ⟨rfl, rfl, rfl⟩

theorem over_any {w : World} {g : Nat} {cs nv pv : Value} {m : Mach} (h : Cells w g 61 (m.cells cs nv pv)) : Calls Tryz.prog 21 #[.pointer (some ⟨g, 0, none⟩)] w fun e w' => e = .returned (.bool m.over) ∧ w' = w := by
  have c0 : w.cell? ⟨g, 16, none⟩ = some (.bool m.over) := h.cell (j := 16) rfl
  clear h
  go_enter Tryz.func21, Tryz.ntmps21
  go_wp2
  go_ret
  exact ⟨rfl, rfl⟩

theorem done_any {w : World} {g : Nat} {cs nv pv : Value} {m : Mach} (h : Cells w g 61 (m.cells cs nv pv)) : Calls Tryz.prog 22 #[.pointer (some ⟨g, 0, none⟩)] w fun e w' => e = .returned (.int .i64 (m.done : Nat)) ∧ w' = w := by
  have c0 : w.cell? ⟨g, 3, none⟩ = some (.int .i64 (m.done : Nat)) := h.cell (j := 3) rfl
  clear h
  go_enter Tryz.func22, Tryz.ntmps22
  go_wp2
  go_ret
  exact ⟨rfl, rfl⟩

theorem place_any {w : World} {g : Nat} {cs nv pv : Value} {m : Mach} (h : Cells w g 61 (m.cells cs nv pv)) : Calls Tryz.prog 23 #[.pointer (some ⟨g, 0, none⟩)] w fun e w' => e = .returned (.int .i64 (m.at_ : Nat)) ∧ w' = w := by
  have c0 : w.cell? ⟨g, 2, none⟩ = some (.int .i64 (m.at_ : Nat)) := h.cell (j := 2) rfl
  clear h
  go_enter Tryz.func23, Tryz.ntmps23
  go_wp2
  go_ret
  exact ⟨rfl, rfl⟩

theorem result_any {w : World} {g : Nat} {cs nv pv : Value} {m : Mach} (h : Cells w g 61 (m.cells cs nv pv)) : Calls Tryz.prog 25 #[.pointer (some ⟨g, 0, none⟩)] w fun e w' => e = .returned (.agg #[.int .i64 m.rcode, .int .u64 (m.rbits : Nat)]) ∧ Below w.heap.size w w' := by
  have c0 : w.cell? ⟨g, 17, none⟩ = some (.int .i64 m.rcode) := h.cell (j := 17) rfl
  have c1 : w.cell? ⟨g, 18, none⟩ = some (.int .u64 (m.rbits : Nat)) := h.cell (j := 18) rfl
  have hlt := h.lt
  clear h
  go_enter Tryz.func25, Tryz.ntmps25
  go_wp2
  refine bodyPost_ret (v := .agg #[.int .i64 m.rcode, .int .u64 (m.rbits : Nat)]) (by simp [results, Tryz.results25, go_sem]) rfl ?_
  exact ⟨rfl, by first | exact (Below.refl _ _).alloc (Nat.le_refl _) _ | exact ((((Below.refl _ _).alloc (Nat.le_refl _) _).setCell (Nat.le_refl _) _).setCell (Nat.le_refl _) _)⟩
theorem reg_any {w : World} {g : Nat} {cs nv pv : Value} {m : Mach} (h : Cells w g 61 (m.cells cs nv pv)) (a : Nat) (ha : a < 8) : Calls Tryz.prog 24 #[.pointer (some ⟨g, 0, none⟩), .int .i64 (a : Nat)] w fun e w' => e = .returned (.int .u64 (m.regs.getD a 0 : Nat)) ∧ w' = w := by
  have c0 : w.cell? ⟨g, 4 + a, none⟩ = some (.int .u64 (m.regs.getD a 0 : Nat)) := h.cell (cells_reg m cs nv pv a ha)
  have i0 : (0 : Int) ≤ a := by omega
  have i1 : (a : Int) < 8 := by omega
  clear h
  generalize m.regs.getD a 0 = r at *
  go_enter Tryz.func24, Tryz.ntmps24
  go_wp2
  go_ret
  exact ⟨rfl, rfl⟩
theorem end_any {w : World} {g : Nat} {cs nv pv : Value} {m : Mach} (h : Cells w g 61 (m.cells cs nv pv)) (code : Int) : Calls Tryz.prog 35 #[.pointer (some ⟨g, 0, none⟩), .int .i64 code] w fun e w' => e = .returned (.tuple #[]) ∧ Cells w' g 61 ((endM m code).cells cs nv pv) ∧ Turns [g] w w' := by
  have c4 : w.cell? ⟨g, 4, none⟩ = some (.int .u64 (m.regs.getD 0 0 : Nat)) := h.cell (j := 4) rfl
  have c16 : w.cell? ⟨g, 16, none⟩ = some (.bool m.over) := h.cell (j := 16) rfl
  have c17 : w.cell? ⟨g, 17, none⟩ = some (.int .i64 m.rcode) := h.cell (j := 17) rfl
  have c18 : w.cell? ⟨g, 18, none⟩ = some (.int .u64 (m.rbits : Nat)) := h.cell (j := 18) rfl
  have f16 := h.fz 16
  have f17 := h.fz 17
  have f18 := h.fz 18
  have HH := Lib.hid h
  clear h
  by_cases hc : code = 0
  · subst hc
    go_enter Tryz.func35, Tryz.ntmps35
    go_wp2
    go_end0
    refine ⟨rfl, ?_, ?_⟩
    · have h1 := (((HH.out.set 16 (.bool true)).set 17 (.int .i64 0)).set 18 (.int .u64 0)).set 18 (.int .u64 (m.regs.getD 0 0 : Nat))
      exact h1
    · exact ((((Turns.refl _ _).set (.inl (by simp)) _).set (.inl (by simp)) _).set (.inl (by simp)) _).set (.inl (by simp)) _
  · have t0 : (code == 0) = false := by rw [beq_eq_false_iff_ne]; exact hc
    have he : endM m code = { m with over := true, rcode := code, rbits := 0 } := by unfold endM; rw [if_neg hc]
    rw [he]
    clear hc he
    go_enter Tryz.func35, Tryz.ntmps35
    go_wp2
    go_end0
    refine ⟨rfl, ?_, ?_⟩
    · have h1 := ((HH.out.set 16 (.bool true)).set 17 (.int .i64 code)).set 18 (.int .u64 0)
      exact h1
    · exact (((Turns.refl _ _).set (.inl (by simp)) _).set (.inl (by simp)) _).set (.inl (by simp)) _
end Go.Proofs.YtjloiclbknfomaaGreatDoor
