/- The machine's small methods: end, must, Over, Done, Place, Result, Reg (contracts). -/
import Derived.Test.YtjloiclbknfomaaDoorKm
import Derived.Deep.RegionWith
import Derived.BigRegion
set_option maxRecDepth 100000
namespace Go.Proofs.YtjloiclbknfomaaDoor
open Go.RowKit Ieee

/-- what an instruction gives up with -/
def trapped (c : Int) : List PanicEntry := [{ v := .iface 68 (.agg #[.int .i64 c]), recovered := false }]

theorem must_yes (c : Int) (w : World) : Calls Tryd.prog 31 #[.bool true, .int .i64 c] w fun e w' => e = .returned (.tuple #[]) ∧ w' = w := by
  go_enter Tryd.func31, Tryd.ntmps31
  go_wp2
  go_end0
  exact ⟨rfl, rfl⟩
theorem must_no (c : Int) (w : World) : Calls Tryd.prog 31 #[.bool false, .int .i64 c] w fun e w' => e = .panicked (trapped c) ∧ w' = w := by
  go_enter Tryd.func31, Tryd.ntmps31
  go_wp2
  exact ⟨rfl, rfl, rfl⟩

theorem over_any {w : World} {g : Nat} {cs nv pv : Value} {m : Mach} (h : Cells w g 64 (m.cells cs nv pv)) : Calls Tryd.prog 10 #[.pointer (some ⟨g, 0, none⟩)] w fun e w' => e = .returned (.bool m.over) ∧ w' = w := by
  have c0 : w.cell? ⟨g, 16, none⟩ = some (.bool m.over) := h.cell (j := 16) rfl
  clear h
  go_enter Tryd.func10, Tryd.ntmps10
  go_wp2
  go_ret
  exact ⟨rfl, rfl⟩

theorem done_any {w : World} {g : Nat} {cs nv pv : Value} {m : Mach} (h : Cells w g 64 (m.cells cs nv pv)) : Calls Tryd.prog 11 #[.pointer (some ⟨g, 0, none⟩)] w fun e w' => e = .returned (.int .i64 (m.done : Nat)) ∧ w' = w := by
  have c0 : w.cell? ⟨g, 3, none⟩ = some (.int .i64 (m.done : Nat)) := h.cell (j := 3) rfl
  clear h
  go_enter Tryd.func11, Tryd.ntmps11
  go_wp2
  go_ret
  exact ⟨rfl, rfl⟩

theorem place_any {w : World} {g : Nat} {cs nv pv : Value} {m : Mach} (h : Cells w g 64 (m.cells cs nv pv)) : Calls Tryd.prog 19 #[.pointer (some ⟨g, 0, none⟩)] w fun e w' => e = .returned (.int .i64 (m.at_ : Nat)) ∧ w' = w := by
  have c0 : w.cell? ⟨g, 2, none⟩ = some (.int .i64 (m.at_ : Nat)) := h.cell (j := 2) rfl
  clear h
  go_enter Tryd.func19, Tryd.ntmps19
  go_wp2
  go_ret
  exact ⟨rfl, rfl⟩

theorem result_any {w : World} {g : Nat} {cs nv pv : Value} {m : Mach} (h : Cells w g 64 (m.cells cs nv pv)) : Calls Tryd.prog 15 #[.pointer (some ⟨g, 0, none⟩)] w fun e w' => e = .returned (.agg #[.int .i64 m.rcode, .int .u64 (m.rbits : Nat)]) ∧ Below w.heap.size w w' := by
  have c0 : w.cell? ⟨g, 17, none⟩ = some (.int .i64 m.rcode) := h.cell (j := 17) rfl
  have c1 : w.cell? ⟨g, 18, none⟩ = some (.int .u64 (m.rbits : Nat)) := h.cell (j := 18) rfl
  have hlt := h.lt
  clear h
  go_enter Tryd.func15, Tryd.ntmps15
  go_wp2
  refine bodyPost_ret (v := .agg #[.int .i64 m.rcode, .int .u64 (m.rbits : Nat)]) (by simp [results, Tryd.results15, go_sem]) rfl ?_
  exact ⟨rfl, by first | exact (Below.refl _ _).alloc (Nat.le_refl _) _ | exact ((((Below.refl _ _).alloc (Nat.le_refl _) _).setCell (Nat.le_refl _) _).setCell (Nat.le_refl _) _)⟩
theorem reg_any {w : World} {g : Nat} {cs nv pv : Value} {m : Mach} (h : Cells w g 64 (m.cells cs nv pv)) (a : Nat) (ha : a < 8) : Calls Tryd.prog 14 #[.pointer (some ⟨g, 0, none⟩), .int .i64 (a : Nat)] w fun e w' => e = .returned (.int .u64 (m.regs.getD a 0 : Nat)) ∧ w' = w := by
  have c0 : w.cell? ⟨g, 4 + a, none⟩ = some (.int .u64 (m.regs.getD a 0 : Nat)) := h.cell (cells_reg m cs nv pv a ha)
  have i0 : (0 : Int) ≤ a := by omega
  have i1 : (a : Int) < 8 := by omega
  clear h
  generalize m.regs.getD a 0 = r at *
  go_enter Tryd.func14, Tryd.ntmps14
  go_wp2
  go_ret
  exact ⟨rfl, rfl⟩
theorem end_any {w : World} {g : Nat} {cs nv pv : Value} {m : Mach} (h : Cells w g 64 (m.cells cs nv pv)) (code : Int) : Calls Tryd.prog 26 #[.pointer (some ⟨g, 0, none⟩), .int .i64 code] w fun e w' => e = .returned (.tuple #[]) ∧ Cells w' g 64 ((endM m code).cells cs nv pv) ∧ Turns [g] w w' := by
  have c4 : w.cell? ⟨g, 4, none⟩ = some (.int .u64 (m.regs.getD 0 0 : Nat)) := h.cell (j := 4) rfl
  have c16 : w.cell? ⟨g, 16, none⟩ = some (.bool m.over) := h.cell (j := 16) rfl
  have c17 : w.cell? ⟨g, 17, none⟩ = some (.int .i64 m.rcode) := h.cell (j := 17) rfl
  have c18 : w.cell? ⟨g, 18, none⟩ = some (.int .u64 (m.rbits : Nat)) := h.cell (j := 18) rfl
  have f16 := h.fz 16
  have f17 := h.fz 17
  have f18 := h.fz 18
  have HH := Lib.hid h
  clear h
  by_cases hc : code = 0
  · subst hc
    go_enter Tryd.func26, Tryd.ntmps26
    go_wp2
    go_end0
    refine ⟨rfl, ?_, ?_⟩
    · have h1 := (((HH.out.set 16 (.bool true)).set 17 (.int .i64 0)).set 18 (.int .u64 0)).set 18 (.int .u64 (m.regs.getD 0 0 : Nat))
      exact h1
    · exact ((((Turns.refl _ _).set (.inl (by simp)) _).set (.inl (by simp)) _).set (.inl (by simp)) _).set (.inl (by simp)) _
  · have t0 : (code == 0) = false := by rw [beq_eq_false_iff_ne]; exact hc
    have he : endM m code = { m with over := true, rcode := code, rbits := 0 } := by unfold endM; rw [if_neg hc]
    rw [he]
    clear hc he
    go_enter Tryd.func26, Tryd.ntmps26
    go_wp2
    go_end0
    refine ⟨rfl, ?_, ?_⟩
    · have h1 := ((HH.out.set 16 (.bool true)).set 17 (.int .i64 code)).set 18 (.int .u64 0)
      exact h1
    · exact (((Turns.refl _ _).set (.inl (by simp)) _).set (.inl (by simp)) _).set (.inl (by simp)) _
end Go.Proofs.YtjloiclbknfomaaDoor
