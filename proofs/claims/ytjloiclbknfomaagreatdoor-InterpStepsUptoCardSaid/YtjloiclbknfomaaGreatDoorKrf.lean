/- The document's flows (contracts). -/
import Derived.Test.YtjloiclbknfomaaGreatDoorKrm
import Derived.Test.YtjloiclbknfomaaGreatDoorNumRefs2
set_option maxRecDepth 100000
namespace Go.Proofs.YtjloiclbknfomaaGreatDoor
open Go.RowKit Ieee

theorem rat_stored {w : World} {g n : Nat} {v : Int} {cs nv pv : Value} {m : Mach} (h : Rw w g cs nv pv m) (hv : v = (n : Nat)) : Rw (w.setCell ⟨g, 2, none⟩ (.int .i64 v)) g cs nv pv { m with at_ := n } ∧ Turns [g] w (w.setCell ⟨g, 2, none⟩ (.int .i64 v)) := by
  have ht : Turns [g] w (w.setCell ⟨g, 2, none⟩ (.int .i64 v)) := (Turns.refl _ _).set (.inl (by simp)) _
  subst hv
  exact ⟨h.block ht (h.cells.set 2 _) rfl rfl rfl, ht⟩
theorem runpushed {w : World} {g : Nat} {cs pv : Value} {m : Mach} {A : Option Addr} {n cap : Nat} (h1 : Rw w g cs (.slice A (n + 1) cap) pv m) (hn : m.nums.length = n + 1) :
    Rw (w.setCell ⟨g, 12, none⟩ (.slice A n cap)) g cs (.slice A n cap) pv { m with nums := m.nums.dropLast } ∧ Turns (mOwn g (.slice A (n + 1) cap) pv) w (w.setCell ⟨g, 12, none⟩ (.slice A n cap)) := by
  have hts : Turns [g] w (w.setCell ⟨g, 12, none⟩ (.slice A n cap)) := (Turns.refl _ _).set (.inl (by simp)) _
  have x1 := own_ne_block h1.code h1.cells (by decide)
  have x2 := own_ne_block h1.nums h1.cells (by decide)
  have x3 := own_ne_block h1.places h1.cells (by decide)
  refine ⟨⟨h1.cells.set 12 _, row_turns h1.code hts fun k hk => by simpa using x1 k hk, ?_, row_turns h1.places hts fun k hk => by simpa using x3 k hk⟩, hts.mono fun x hx => .inl (mOwn_only _ _ _ hx)⟩
  have hrow := h1.nums
  simp only [hn] at hrow
  obtain ⟨b, rfl, _, _, hp⟩ := own_pop hrow
  have hd : (m.nums.map U).take n = m.nums.dropLast.map U := by
    rw [List.dropLast_eq_take, hn, ← List.map_take]
    simp
  rw [hd] at hp
  have hl : m.nums.dropLast.length = n := by simp [hn]
  have := row_turns hp hts fun k hk => by simpa using x2 k hk
  simpa only [hl] using this
/-- what an op of places and stacks does: the machine, the trap -/
def flowM (m : Mach) (x : Ins) : Mach × Int :=
  if x.op = 14 then ({ m with at_ := x.n.toNat }, 0)
  else if x.op = 15 then ({ m with at_ := if fclass (m.reg x.a) ≠ 2 then x.n.toNat else m.at_ + 1 }, 0)
  else if x.op = 16 then if (fintR (m.reg x.a)).2 = 0 ∧ 0 ≤ (fintR (m.reg x.a)).1 ∧ (fintR (m.reg x.a)).1 ≤ (m.code.length : Int) then ({ m with at_ := (fintR (m.reg x.a)).1.toNat }, 0) else ({ m with at_ := m.at_ + 1 }, 4)
  else if x.op = 17 then if m.places.length < 8 then ({ m with places := m.places ++ [m.at_ + 1], at_ := x.n.toNat }, 0) else ({ m with at_ := m.at_ + 1 }, 2)
  else if x.op = 18 then if 0 < m.places.length then ({ m with places := m.places.dropLast, at_ := m.places.getLastD 0 }, 0) else ({ m with at_ := m.at_ + 1 }, 3)
  else if x.op = 19 then if m.nums.length < 8 then ({ m with nums := m.nums ++ [m.reg x.a], at_ := m.at_ + 1 }, 0) else ({ m with at_ := m.at_ + 1 }, 2)
  else if x.op = 20 then if 0 < m.nums.length then ({ m with regs := m.regs.set x.a.toNat (m.nums.getLastD 0), nums := m.nums.dropLast, at_ := m.at_ + 1 }, 0) else ({ m with at_ := m.at_ + 1 }, 3)
  else if x.op = 23 then ({ m with at_ := m.at_ + 1 }, 7)
  else ({ m with at_ := m.at_ + 1 }, 0)

set_option maxRecDepth 100000 in
set_option maxHeartbeats 4000000 in
theorem rflow_jump {w : World} {g : Nat} {cs nv pv : Value} {m : Mach} (hR : Rw w g cs nv pv m) (hF : m.Fit) (hat : m.at_ < m.code.length) (a b c : Nat) (ha : a < 8) (n : Int) (k : Nat) (hn : 0 ≤ n) :
    Calls Tryz.prog 33 #[.pointer (some ⟨g, 0, none⟩), .agg #[.int .i64 14, .int .i64 (a : Nat), .int .i64 (b : Nat), .int .i64 (c : Nat), .int .i64 n, .int .u64 (k : Nat)]] w fun e w' => ∃ nv' pv', e = .returned (.int .i64 0) ∧ Anew w nv nv' ∧ Anew w pv pv' ∧ Rw w' g cs nv' pv' { m with at_ := n.toNat } ∧ Turns (mOwn g nv pv) w w' := by
  have HR0 := Lib.hid hR
  have hlt := hR.lt
  have h64 : m.at_ < 64 := Nat.lt_of_lt_of_le hat hF.len.2
  have c2 : w.cell? ⟨g, 2, none⟩ = some (.int .i64 (m.at_ : Nat)) := hR.cells.cell (j := 2) rfl
  have c2f := hR.cells.fz 2
  have hwr : wrap64 ((m.at_ : Int) + 1) = (m.at_ : Int) + 1 := by unfold wrap64; omega
  have HF := Lib.hid hF
  obtain ⟨Mx, hMx⟩ : ∃ q : Mach, { m with at_ := n.toNat } = q := ⟨_, rfl⟩
  rw [hMx]
  have HMX := Lib.hid hMx
  clear hR hF hat hMx
  go_enter Tryz.func33, Tryz.ntmps33
  go_upto_region 2 with fail
  obtain ⟨hR2, ht2⟩ := rat_stored (v := (m.at_ : Int) + 1) (n := m.at_ + 1) HR0.out (by omega)
  have HR := Lib.hid (hR2.alloc (.cells #[.int .i64 14, .int .i64 (a : Nat), .int .i64 (b : Nat), .int .i64 (c : Nat), .int .i64 n, .int .u64 (k : Nat)] 77))
  have HX := Lib.hid (Cells.newAt (w.setCell ⟨g, 2, none⟩ (.int .i64 ((m.at_ : Int) + 1))) 77 #[.int .i64 14, .int .i64 (a : Nat), .int .i64 (b : Nat), .int .i64 (c : Nat), .int .i64 n, .int .u64 (k : Nat)] w.heap.size (by simp [World.setCell]))
  have HT := Lib.hid (show Turns (mOwn g nv pv) w _ from (turns_g ht2).alloc (.cells #[.int .i64 14, .int .i64 (a : Nat), .int .i64 (b : Nat), .int .i64 (c : Nat), .int .i64 n, .int .u64 (k : Nat)] 77))
  have HB : Hid (w.heap.size ≤ ((w.setCell ⟨g, 2, none⟩ (.int .i64 ((m.at_ : Int) + 1))).alloc (.cells #[.int .i64 14, .int .i64 (a : Nat), .int .i64 (b : Nat), .int .i64 (c : Nat), .int .i64 n, .int .u64 (k : Nat)] 77)).heap.size) := Lib.hid HT.out.size
  clear hR2 ht2 c2 c2f HR0
  generalize (w.setCell ⟨g, 2, none⟩ (.int .i64 ((m.at_ : Int) + 1))).alloc (.cells #[.int .i64 14, .int .i64 (a : Nat), .int .i64 (b : Nat), .int .i64 (c : Nat), .int .i64 n, .int .u64 (k : Nat)] 77) = w2 at *
  have y0 : w2.cell? ⟨w.heap.size, 0, none⟩ = some (.int .i64 14) := HX.out.cell (j := 0) rfl
  have y1 : w2.cell? ⟨w.heap.size, 1, none⟩ = some (.int .i64 (a : Nat)) := HX.out.cell (j := 1) rfl
  have y4 : w2.cell? ⟨w.heap.size, 4, none⟩ = some (.int .i64 n) := HX.out.cell (j := 4) rfl
  have d2 : w2.cell? ⟨g, 2, none⟩ = some (.int .i64 ((m.at_ + 1 : Nat) : Int)) := HR.out.cells.cell (j := 2) rfl
  have d2f := HR.out.cells.fz 2
  go_wp2
  go_ret
  have hp := rat_stored (v := n) (n := n.toNat) HR.out (by omega)
  first | exact ⟨_, _, rfl, .inl rfl, .inl rfl, by rw [← HMX.out]; exact hp.1, HT.out.trans (turns_g hp.2)⟩ | exact ⟨rfl, _, .inl rfl, _, .inl rfl, by rw [← HMX.out]; exact hp.1, HT.out.trans (turns_g hp.2)⟩

set_option maxRecDepth 100000 in
set_option maxHeartbeats 4000000 in
theorem rflow_if {w : World} {g : Nat} {cs nv pv : Value} {m : Mach} (hR : Rw w g cs nv pv m) (hF : m.Fit) (hat : m.at_ < m.code.length) (a b c : Nat) (ha : a < 8) (n : Int) (k : Nat) (hn : 0 ≤ n) (hc : fclass (m.regs.getD a 0) ≠ 2) :
    Calls Tryz.prog 33 #[.pointer (some ⟨g, 0, none⟩), .agg #[.int .i64 15, .int .i64 (a : Nat), .int .i64 (b : Nat), .int .i64 (c : Nat), .int .i64 n, .int .u64 (k : Nat)]] w fun e w' => ∃ nv' pv', e = .returned (.int .i64 0) ∧ Anew w nv nv' ∧ Anew w pv pv' ∧ Rw w' g cs nv' pv' { m with at_ := n.toNat } ∧ Turns (mOwn g nv pv) w w' := by
  have HR0 := Lib.hid hR
  have hlt := hR.lt
  have h64 : m.at_ < 64 := Nat.lt_of_lt_of_le hat hF.len.2
  have c2 : w.cell? ⟨g, 2, none⟩ = some (.int .i64 (m.at_ : Nat)) := hR.cells.cell (j := 2) rfl
  have c2f := hR.cells.fz 2
  have hwr : wrap64 ((m.at_ : Int) + 1) = (m.at_ : Int) + 1 := by unfold wrap64; omega
  have HF := Lib.hid hF
  obtain ⟨Mx, hMx⟩ : ∃ q : Mach, { m with at_ := n.toNat } = q := ⟨_, rfl⟩
  rw [hMx]
  have HMX := Lib.hid hMx
  clear hR hF hat hMx
  go_enter Tryz.func33, Tryz.ntmps33
  go_upto_region 2 with fail
  obtain ⟨hR2, ht2⟩ := rat_stored (v := (m.at_ : Int) + 1) (n := m.at_ + 1) HR0.out (by omega)
  have HR := Lib.hid (hR2.alloc (.cells #[.int .i64 15, .int .i64 (a : Nat), .int .i64 (b : Nat), .int .i64 (c : Nat), .int .i64 n, .int .u64 (k : Nat)] 77))
  have HX := Lib.hid (Cells.newAt (w.setCell ⟨g, 2, none⟩ (.int .i64 ((m.at_ : Int) + 1))) 77 #[.int .i64 15, .int .i64 (a : Nat), .int .i64 (b : Nat), .int .i64 (c : Nat), .int .i64 n, .int .u64 (k : Nat)] w.heap.size (by simp [World.setCell]))
  have HT := Lib.hid (show Turns (mOwn g nv pv) w _ from (turns_g ht2).alloc (.cells #[.int .i64 15, .int .i64 (a : Nat), .int .i64 (b : Nat), .int .i64 (c : Nat), .int .i64 n, .int .u64 (k : Nat)] 77))
  have HB : Hid (w.heap.size ≤ ((w.setCell ⟨g, 2, none⟩ (.int .i64 ((m.at_ : Int) + 1))).alloc (.cells #[.int .i64 15, .int .i64 (a : Nat), .int .i64 (b : Nat), .int .i64 (c : Nat), .int .i64 n, .int .u64 (k : Nat)] 77)).heap.size) := Lib.hid HT.out.size
  clear hR2 ht2 c2 c2f HR0
  generalize (w.setCell ⟨g, 2, none⟩ (.int .i64 ((m.at_ : Int) + 1))).alloc (.cells #[.int .i64 15, .int .i64 (a : Nat), .int .i64 (b : Nat), .int .i64 (c : Nat), .int .i64 n, .int .u64 (k : Nat)] 77) = w2 at *
  have y0 : w2.cell? ⟨w.heap.size, 0, none⟩ = some (.int .i64 15) := HX.out.cell (j := 0) rfl
  have y1 : w2.cell? ⟨w.heap.size, 1, none⟩ = some (.int .i64 (a : Nat)) := HX.out.cell (j := 1) rfl
  have y4 : w2.cell? ⟨w.heap.size, 4, none⟩ = some (.int .i64 n) := HX.out.cell (j := 4) rfl
  have d2 : w2.cell? ⟨g, 2, none⟩ = some (.int .i64 ((m.at_ + 1 : Nat) : Int)) := HR.out.cells.cell (j := 2) rfl
  have d2f := HR.out.cells.fz 2
  have r0 := HR.out.cells.cell (cells_reg _ cs nv pv a ha)
  have kc := fun j => rclass_any (can_reg HF.out a ha).1 (w2.drewN j)
  dsimp only at r0
  generalize m.regs.getD a 0 = rv at *
  have i0 : (0 : Int) ≤ a := by omega
  have i1 : (a : Int) < 8 := by omega
  have t1 : (fclass rv == 2) = false := by rw [beq_eq_false_iff_ne]; exact hc
  have t2 : (fclass rv != 2) = true := by simp [bne, t1]
  clear hc
  generalize fclass rv = cl at *
  go_upto_region 6 with fail
  go_quiet ((go_at_call 55; refine Calls.quiet_of (kc _)))
  have HRz := Lib.hid (HR.out.drewN nq)
  have HTz := Lib.hid (HT.out.drewN nq)
  have HXz := Lib.hid (Cells.drewN HX.out nq)
  clear HR HT HX kc r0 y0 y1 y4 d2 d2f HB
  generalize w2.drewN nq = wz at *
  have y4 : wz.cell? ⟨w.heap.size, 4, none⟩ = some (.int .i64 n) := HXz.out.cell (j := 4) rfl
  have d2 : wz.cell? ⟨g, 2, none⟩ = some (.int .i64 ((m.at_ + 1 : Nat) : Int)) := HRz.out.cells.cell (j := 2) rfl
  have d2f := HRz.out.cells.fz 2
  go_wp2
  go_ret
  have hp := rat_stored (v := n) (n := n.toNat) HRz.out (by omega)
  first | exact ⟨_, _, rfl, .inl rfl, .inl rfl, by rw [← HMX.out]; exact hp.1, HTz.out.trans (turns_g hp.2)⟩ | exact ⟨rfl, _, .inl rfl, _, .inl rfl, by rw [← HMX.out]; exact hp.1, HTz.out.trans (turns_g hp.2)⟩

set_option maxRecDepth 100000 in
set_option maxHeartbeats 4000000 in
theorem rflow_ifnot {w : World} {g : Nat} {cs nv pv : Value} {m : Mach} (hR : Rw w g cs nv pv m) (hF : m.Fit) (hat : m.at_ < m.code.length) (a b c : Nat) (ha : a < 8) (n : Int) (k : Nat) (hc : fclass (m.regs.getD a 0) = 2) :
    Calls Tryz.prog 33 #[.pointer (some ⟨g, 0, none⟩), .agg #[.int .i64 15, .int .i64 (a : Nat), .int .i64 (b : Nat), .int .i64 (c : Nat), .int .i64 n, .int .u64 (k : Nat)]] w fun e w' => ∃ nv' pv', e = .returned (.int .i64 0) ∧ Anew w nv nv' ∧ Anew w pv pv' ∧ Rw w' g cs nv' pv' { m with at_ := m.at_ + 1 } ∧ Turns (mOwn g nv pv) w w' := by
  have HR0 := Lib.hid hR
  have hlt := hR.lt
  have h64 : m.at_ < 64 := Nat.lt_of_lt_of_le hat hF.len.2
  have c2 : w.cell? ⟨g, 2, none⟩ = some (.int .i64 (m.at_ : Nat)) := hR.cells.cell (j := 2) rfl
  have c2f := hR.cells.fz 2
  have hwr : wrap64 ((m.at_ : Int) + 1) = (m.at_ : Int) + 1 := by unfold wrap64; omega
  have HF := Lib.hid hF
  obtain ⟨Mx, hMx⟩ : ∃ q : Mach, { m with at_ := m.at_ + 1 } = q := ⟨_, rfl⟩
  rw [hMx]
  have HMX := Lib.hid hMx
  clear hR hF hat hMx
  go_enter Tryz.func33, Tryz.ntmps33
  go_upto_region 2 with fail
  obtain ⟨hR2, ht2⟩ := rat_stored (v := (m.at_ : Int) + 1) (n := m.at_ + 1) HR0.out (by omega)
  have HR := Lib.hid (hR2.alloc (.cells #[.int .i64 15, .int .i64 (a : Nat), .int .i64 (b : Nat), .int .i64 (c : Nat), .int .i64 n, .int .u64 (k : Nat)] 77))
  have HX := Lib.hid (Cells.newAt (w.setCell ⟨g, 2, none⟩ (.int .i64 ((m.at_ : Int) + 1))) 77 #[.int .i64 15, .int .i64 (a : Nat), .int .i64 (b : Nat), .int .i64 (c : Nat), .int .i64 n, .int .u64 (k : Nat)] w.heap.size (by simp [World.setCell]))
  have HT := Lib.hid (show Turns (mOwn g nv pv) w _ from (turns_g ht2).alloc (.cells #[.int .i64 15, .int .i64 (a : Nat), .int .i64 (b : Nat), .int .i64 (c : Nat), .int .i64 n, .int .u64 (k : Nat)] 77))
  have HB : Hid (w.heap.size ≤ ((w.setCell ⟨g, 2, none⟩ (.int .i64 ((m.at_ : Int) + 1))).alloc (.cells #[.int .i64 15, .int .i64 (a : Nat), .int .i64 (b : Nat), .int .i64 (c : Nat), .int .i64 n, .int .u64 (k : Nat)] 77)).heap.size) := Lib.hid HT.out.size
  clear hR2 ht2 c2 c2f HR0
  generalize (w.setCell ⟨g, 2, none⟩ (.int .i64 ((m.at_ : Int) + 1))).alloc (.cells #[.int .i64 15, .int .i64 (a : Nat), .int .i64 (b : Nat), .int .i64 (c : Nat), .int .i64 n, .int .u64 (k : Nat)] 77) = w2 at *
  have y0 : w2.cell? ⟨w.heap.size, 0, none⟩ = some (.int .i64 15) := HX.out.cell (j := 0) rfl
  have y1 : w2.cell? ⟨w.heap.size, 1, none⟩ = some (.int .i64 (a : Nat)) := HX.out.cell (j := 1) rfl
  have y4 : w2.cell? ⟨w.heap.size, 4, none⟩ = some (.int .i64 n) := HX.out.cell (j := 4) rfl
  have d2 : w2.cell? ⟨g, 2, none⟩ = some (.int .i64 ((m.at_ + 1 : Nat) : Int)) := HR.out.cells.cell (j := 2) rfl
  have d2f := HR.out.cells.fz 2
  have r0 := HR.out.cells.cell (cells_reg _ cs nv pv a ha)
  have kc := fun j => rclass_any (can_reg HF.out a ha).1 (w2.drewN j)
  dsimp only at r0
  generalize m.regs.getD a 0 = rv at *
  have i0 : (0 : Int) ≤ a := by omega
  have i1 : (a : Int) < 8 := by omega
  rw [hc] at kc
  clear hc
  go_upto_region 6 with fail
  go_quiet ((go_at_call 55; refine Calls.quiet_of (kc _)))
  have HRz := Lib.hid (HR.out.drewN nq)
  have HTz := Lib.hid (HT.out.drewN nq)
  have HXz := Lib.hid (Cells.drewN HX.out nq)
  clear HR HT HX kc r0 y0 y1 y4 d2 d2f HB
  generalize w2.drewN nq = wz at *
  have y4 : wz.cell? ⟨w.heap.size, 4, none⟩ = some (.int .i64 n) := HXz.out.cell (j := 4) rfl
  have d2 : wz.cell? ⟨g, 2, none⟩ = some (.int .i64 ((m.at_ + 1 : Nat) : Int)) := HRz.out.cells.cell (j := 2) rfl
  have d2f := HRz.out.cells.fz 2
  go_wp2
  go_ret
  first | exact ⟨_, _, rfl, .inl rfl, .inl rfl, by rw [← HMX.out]; exact HRz.out, HTz.out⟩ | exact ⟨rfl, _, .inl rfl, _, .inl rfl, by rw [← HMX.out]; exact HRz.out, HTz.out⟩

set_option maxRecDepth 100000 in
set_option maxHeartbeats 4000000 in
theorem rflow_goto {w : World} {g : Nat} {cs nv pv : Value} {m : Mach} (hR : Rw w g cs nv pv m) (hF : m.Fit) (hat : m.at_ < m.code.length) (a b c : Nat) (ha : a < 8) (n : Int) (k : Nat) (hok : (fintR (m.regs.getD a 0)).2 = 0 ∧ 0 ≤ (fintR (m.regs.getD a 0)).1 ∧ (fintR (m.regs.getD a 0)).1 ≤ (m.code.length : Int)) :
    Calls Tryz.prog 33 #[.pointer (some ⟨g, 0, none⟩), .agg #[.int .i64 16, .int .i64 (a : Nat), .int .i64 (b : Nat), .int .i64 (c : Nat), .int .i64 n, .int .u64 (k : Nat)]] w fun e w' => ∃ nv' pv', e = .returned (.int .i64 0) ∧ Anew w nv nv' ∧ Anew w pv pv' ∧ Rw w' g cs nv' pv' { m with at_ := (fintR (m.regs.getD a 0)).1.toNat } ∧ Turns (mOwn g nv pv) w w' := by
  have HR0 := Lib.hid hR
  have hlt := hR.lt
  have h64 : m.at_ < 64 := Nat.lt_of_lt_of_le hat hF.len.2
  have c2 : w.cell? ⟨g, 2, none⟩ = some (.int .i64 (m.at_ : Nat)) := hR.cells.cell (j := 2) rfl
  have c2f := hR.cells.fz 2
  have hwr : wrap64 ((m.at_ : Int) + 1) = (m.at_ : Int) + 1 := by unfold wrap64; omega
  have HF := Lib.hid hF
  obtain ⟨Mx, hMx⟩ : ∃ q : Mach, { m with at_ := (fintR (m.regs.getD a 0)).1.toNat } = q := ⟨_, rfl⟩
  rw [hMx]
  have HMX := Lib.hid hMx
  clear hR hF hat hMx
  go_enter Tryz.func33, Tryz.ntmps33
  go_upto_region 2 with fail
  obtain ⟨hR2, ht2⟩ := rat_stored (v := (m.at_ : Int) + 1) (n := m.at_ + 1) HR0.out (by omega)
  have HR := Lib.hid (hR2.alloc (.cells #[.int .i64 16, .int .i64 (a : Nat), .int .i64 (b : Nat), .int .i64 (c : Nat), .int .i64 n, .int .u64 (k : Nat)] 77))
  have HX := Lib.hid (Cells.newAt (w.setCell ⟨g, 2, none⟩ (.int .i64 ((m.at_ : Int) + 1))) 77 #[.int .i64 16, .int .i64 (a : Nat), .int .i64 (b : Nat), .int .i64 (c : Nat), .int .i64 n, .int .u64 (k : Nat)] w.heap.size (by simp [World.setCell]))
  have HT := Lib.hid (show Turns (mOwn g nv pv) w _ from (turns_g ht2).alloc (.cells #[.int .i64 16, .int .i64 (a : Nat), .int .i64 (b : Nat), .int .i64 (c : Nat), .int .i64 n, .int .u64 (k : Nat)] 77))
  have HB : Hid (w.heap.size ≤ ((w.setCell ⟨g, 2, none⟩ (.int .i64 ((m.at_ : Int) + 1))).alloc (.cells #[.int .i64 16, .int .i64 (a : Nat), .int .i64 (b : Nat), .int .i64 (c : Nat), .int .i64 n, .int .u64 (k : Nat)] 77)).heap.size) := Lib.hid HT.out.size
  clear hR2 ht2 c2 c2f HR0
  generalize (w.setCell ⟨g, 2, none⟩ (.int .i64 ((m.at_ : Int) + 1))).alloc (.cells #[.int .i64 16, .int .i64 (a : Nat), .int .i64 (b : Nat), .int .i64 (c : Nat), .int .i64 n, .int .u64 (k : Nat)] 77) = w2 at *
  have y0 : w2.cell? ⟨w.heap.size, 0, none⟩ = some (.int .i64 16) := HX.out.cell (j := 0) rfl
  have y1 : w2.cell? ⟨w.heap.size, 1, none⟩ = some (.int .i64 (a : Nat)) := HX.out.cell (j := 1) rfl
  have y4 : w2.cell? ⟨w.heap.size, 4, none⟩ = some (.int .i64 n) := HX.out.cell (j := 4) rfl
  have d2 : w2.cell? ⟨g, 2, none⟩ = some (.int .i64 ((m.at_ + 1 : Nat) : Int)) := HR.out.cells.cell (j := 2) rfl
  have d2f := HR.out.cells.fz 2
  have r0 : ∀ y : BW w2, y.val.cell? ⟨g, 4 + a, none⟩ = some (.int .u64 (m.regs.getD a 0 : Nat)) := fun y => (HR.out.keep y.below).cells.cell (cells_reg _ cs nv pv a ha)
  have yy1 : ∀ y : BW w2, y.val.cell? ⟨w.heap.size, 1, none⟩ = some (.int .i64 (a : Nat)) := fun y => y.cell y1
  have kc := fun W => rint_any (can_reg HF.out a ha).1 W
  generalize m.regs.getD a 0 = rv at *
  obtain ⟨z, e, hze⟩ : ∃ z e, fintR rv = (z, e) := ⟨_, _, rfl⟩
  rw [hze] at kc hok
  dsimp only at kc hok
  have i0 : (0 : Int) ≤ a := by omega
  have i1 : (a : Int) < 8 := by omega
  obtain ⟨Ac, cc, rfl⟩ := own_slice HR.out.code
  have HOK := Lib.hid hok
  have HZE := Lib.hid hze
  clear hok hze
  go_upto_region 9 with fail
  refine wp_region_bw (w := w2) (by kernel_rfl) (by kernel_rfl) ?_
  repeat (refine wpQuiet_step (fun K hK => ?_); go_simp; first | (refine hK _ ?_; clear hK K) | (apply Exists.intro; refine ⟨fun _ => ?_, hK _ ?_⟩; (go_at_call 56; with_reducible exact Calls.quiet_bw (kc _)); clear hK K))
  refine wpQuiet_nil ?_
  intro yq
  have HRz := Lib.hid (HR.out.keep yq.below)
  have HTz := Lib.hid (HT.out.trans (Turns.of_below yq.below))
  clear HR HT HX kc r0 yy1 y0 y1 y4 d2 d2f HB
  generalize yq.val = wz at *
  have d1 : wz.cell? ⟨g, 1, none⟩ = some (.slice Ac m.code.length cc) := HRz.out.cells.cell (j := 1) rfl
  have d2 : wz.cell? ⟨g, 2, none⟩ = some (.int .i64 ((m.at_ + 1 : Nat) : Int)) := HRz.out.cells.cell (j := 2) rfl
  have d2f := HRz.out.cells.fz 2
  have hok := HOK.out
  obtain ⟨rfl, h0, h1⟩ := hok
  have t1 : decide (z < 0) = false := decide_eq_false (by omega)
  have t2 : decide ((m.code.length : Int) < z) = false := decide_eq_false (by omega)
  go_wp2
  go_ret
  have hp := rat_stored (v := z) (n := z.toNat) HRz.out (by omega)
  first | exact ⟨_, _, rfl, .inl rfl, .inl rfl, by rw [← HMX.out, HZE.out]; exact hp.1, HTz.out.trans (turns_g hp.2)⟩ | exact ⟨rfl, _, .inl rfl, _, .inl rfl, by rw [← HMX.out, HZE.out]; exact hp.1, HTz.out.trans (turns_g hp.2)⟩

set_option maxRecDepth 100000 in
set_option maxHeartbeats 4000000 in
theorem rflow_gotonot {w : World} {g : Nat} {cs nv pv : Value} {m : Mach} (hR : Rw w g cs nv pv m) (hF : m.Fit) (hat : m.at_ < m.code.length) (a b c : Nat) (ha : a < 8) (n : Int) (k : Nat) (hok : ¬ ((fintR (m.regs.getD a 0)).2 = 0 ∧ 0 ≤ (fintR (m.regs.getD a 0)).1 ∧ (fintR (m.regs.getD a 0)).1 ≤ (m.code.length : Int))) :
    Calls Tryz.prog 33 #[.pointer (some ⟨g, 0, none⟩), .agg #[.int .i64 16, .int .i64 (a : Nat), .int .i64 (b : Nat), .int .i64 (c : Nat), .int .i64 n, .int .u64 (k : Nat)]] w fun e w' => ∃ nv' pv', e = .returned (.int .i64 4) ∧ Anew w nv nv' ∧ Anew w pv pv' ∧ Rw w' g cs nv' pv' { m with at_ := m.at_ + 1 } ∧ Turns (mOwn g nv pv) w w' := by
  have HR0 := Lib.hid hR
  have hlt := hR.lt
  have h64 : m.at_ < 64 := Nat.lt_of_lt_of_le hat hF.len.2
  have c2 : w.cell? ⟨g, 2, none⟩ = some (.int .i64 (m.at_ : Nat)) := hR.cells.cell (j := 2) rfl
  have c2f := hR.cells.fz 2
  have hwr : wrap64 ((m.at_ : Int) + 1) = (m.at_ : Int) + 1 := by unfold wrap64; omega
  have HF := Lib.hid hF
  obtain ⟨Mx, hMx⟩ : ∃ q : Mach, { m with at_ := m.at_ + 1 } = q := ⟨_, rfl⟩
  rw [hMx]
  have HMX := Lib.hid hMx
  clear hR hF hat hMx
  go_enter Tryz.func33, Tryz.ntmps33
  go_upto_region 2 with fail
  obtain ⟨hR2, ht2⟩ := rat_stored (v := (m.at_ : Int) + 1) (n := m.at_ + 1) HR0.out (by omega)
  have HR := Lib.hid (hR2.alloc (.cells #[.int .i64 16, .int .i64 (a : Nat), .int .i64 (b : Nat), .int .i64 (c : Nat), .int .i64 n, .int .u64 (k : Nat)] 77))
  have HX := Lib.hid (Cells.newAt (w.setCell ⟨g, 2, none⟩ (.int .i64 ((m.at_ : Int) + 1))) 77 #[.int .i64 16, .int .i64 (a : Nat), .int .i64 (b : Nat), .int .i64 (c : Nat), .int .i64 n, .int .u64 (k : Nat)] w.heap.size (by simp [World.setCell]))
  have HT := Lib.hid (show Turns (mOwn g nv pv) w _ from (turns_g ht2).alloc (.cells #[.int .i64 16, .int .i64 (a : Nat), .int .i64 (b : Nat), .int .i64 (c : Nat), .int .i64 n, .int .u64 (k : Nat)] 77))
  have HB : Hid (w.heap.size ≤ ((w.setCell ⟨g, 2, none⟩ (.int .i64 ((m.at_ : Int) + 1))).alloc (.cells #[.int .i64 16, .int .i64 (a : Nat), .int .i64 (b : Nat), .int .i64 (c : Nat), .int .i64 n, .int .u64 (k : Nat)] 77)).heap.size) := Lib.hid HT.out.size
  clear hR2 ht2 c2 c2f HR0
  generalize (w.setCell ⟨g, 2, none⟩ (.int .i64 ((m.at_ : Int) + 1))).alloc (.cells #[.int .i64 16, .int .i64 (a : Nat), .int .i64 (b : Nat), .int .i64 (c : Nat), .int .i64 n, .int .u64 (k : Nat)] 77) = w2 at *
  have y0 : w2.cell? ⟨w.heap.size, 0, none⟩ = some (.int .i64 16) := HX.out.cell (j := 0) rfl
  have y1 : w2.cell? ⟨w.heap.size, 1, none⟩ = some (.int .i64 (a : Nat)) := HX.out.cell (j := 1) rfl
  have y4 : w2.cell? ⟨w.heap.size, 4, none⟩ = some (.int .i64 n) := HX.out.cell (j := 4) rfl
  have d2 : w2.cell? ⟨g, 2, none⟩ = some (.int .i64 ((m.at_ + 1 : Nat) : Int)) := HR.out.cells.cell (j := 2) rfl
  have d2f := HR.out.cells.fz 2
  have r0 : ∀ y : BW w2, y.val.cell? ⟨g, 4 + a, none⟩ = some (.int .u64 (m.regs.getD a 0 : Nat)) := fun y => (HR.out.keep y.below).cells.cell (cells_reg _ cs nv pv a ha)
  have yy1 : ∀ y : BW w2, y.val.cell? ⟨w.heap.size, 1, none⟩ = some (.int .i64 (a : Nat)) := fun y => y.cell y1
  have kc := fun W => rint_any (can_reg HF.out a ha).1 W
  generalize m.regs.getD a 0 = rv at *
  obtain ⟨z, e, hze⟩ : ∃ z e, fintR rv = (z, e) := ⟨_, _, rfl⟩
  rw [hze] at kc hok
  dsimp only at kc hok
  have i0 : (0 : Int) ≤ a := by omega
  have i1 : (a : Int) < 8 := by omega
  obtain ⟨Ac, cc, rfl⟩ := own_slice HR.out.code
  have HOK := Lib.hid hok
  have HZE := Lib.hid hze
  clear hok hze
  go_upto_region 9 with fail
  refine wp_region_bw (w := w2) (by kernel_rfl) (by kernel_rfl) ?_
  repeat (refine wpQuiet_step (fun K hK => ?_); go_simp; first | (refine hK _ ?_; clear hK K) | (apply Exists.intro; refine ⟨fun _ => ?_, hK _ ?_⟩; (go_at_call 56; with_reducible exact Calls.quiet_bw (kc _)); clear hK K))
  refine wpQuiet_nil ?_
  intro yq
  have HRz := Lib.hid (HR.out.keep yq.below)
  have HTz := Lib.hid (HT.out.trans (Turns.of_below yq.below))
  clear HR HT HX kc r0 yy1 y0 y1 y4 d2 d2f HB
  generalize yq.val = wz at *
  have d1 : wz.cell? ⟨g, 1, none⟩ = some (.slice Ac m.code.length cc) := HRz.out.cells.cell (j := 1) rfl
  have d2 : wz.cell? ⟨g, 2, none⟩ = some (.int .i64 ((m.at_ + 1 : Nat) : Int)) := HRz.out.cells.cell (j := 2) rfl
  have d2f := HRz.out.cells.fz 2
  have hok := HOK.out
  have hcs : (e ≠ 0) ∨ (e = 0 ∧ z < 0) ∨ (e = 0 ∧ ¬ z < 0 ∧ (m.code.length : Int) < z) := by omega
  clear hok HOK
  rcases hcs with h | ⟨rfl, h⟩ | ⟨rfl, h, h2⟩
  · have t1 : (e == 0) = false := by rw [beq_eq_false_iff_ne]; exact h
    have t2 : (e != 0) = true := by simp [bne, t1]
    clear h
    go_wp2
    go_ret
    first | exact ⟨_, _, rfl, .inl rfl, .inl rfl, by rw [← HMX.out]; exact HRz.out, HTz.out⟩ | exact ⟨rfl, _, .inl rfl, _, .inl rfl, by rw [← HMX.out]; exact HRz.out, HTz.out⟩
  · go_wp2
    go_ret
    first | exact ⟨_, _, rfl, .inl rfl, .inl rfl, by rw [← HMX.out]; exact HRz.out, HTz.out⟩ | exact ⟨rfl, _, .inl rfl, _, .inl rfl, by rw [← HMX.out]; exact HRz.out, HTz.out⟩
  · have t1 : decide (z < 0) = false := decide_eq_false h
    have t2 : decide ((m.code.length : Int) < z) = true := decide_eq_true h2
    go_wp2
    go_ret
    first | exact ⟨_, _, rfl, .inl rfl, .inl rfl, by rw [← HMX.out]; exact HRz.out, HTz.out⟩ | exact ⟨rfl, _, .inl rfl, _, .inl rfl, by rw [← HMX.out]; exact HRz.out, HTz.out⟩

set_option maxRecDepth 100000 in
set_option maxHeartbeats 4000000 in
theorem rflow_callfull {w : World} {g : Nat} {cs nv pv : Value} {m : Mach} (hR : Rw w g cs nv pv m) (hF : m.Fit) (hat : m.at_ < m.code.length) (a b c : Nat) (ha : a < 8) (n : Int) (k : Nat) (hfull : m.places.length = 8) :
    Calls Tryz.prog 33 #[.pointer (some ⟨g, 0, none⟩), .agg #[.int .i64 17, .int .i64 (a : Nat), .int .i64 (b : Nat), .int .i64 (c : Nat), .int .i64 n, .int .u64 (k : Nat)]] w fun e w' => ∃ nv' pv', e = .returned (.int .i64 2) ∧ Anew w nv nv' ∧ Anew w pv pv' ∧ Rw w' g cs nv' pv' { m with at_ := m.at_ + 1 } ∧ Turns (mOwn g nv pv) w w' := by
  have HR0 := Lib.hid hR
  have hlt := hR.lt
  have h64 : m.at_ < 64 := Nat.lt_of_lt_of_le hat hF.len.2
  have c2 : w.cell? ⟨g, 2, none⟩ = some (.int .i64 (m.at_ : Nat)) := hR.cells.cell (j := 2) rfl
  have c2f := hR.cells.fz 2
  have hwr : wrap64 ((m.at_ : Int) + 1) = (m.at_ : Int) + 1 := by unfold wrap64; omega
  have HF := Lib.hid hF
  obtain ⟨Mx, hMx⟩ : ∃ q : Mach, { m with at_ := m.at_ + 1 } = q := ⟨_, rfl⟩
  rw [hMx]
  have HMX := Lib.hid hMx
  clear hR hF hat hMx
  go_enter Tryz.func33, Tryz.ntmps33
  go_upto_region 2 with fail
  obtain ⟨hR2, ht2⟩ := rat_stored (v := (m.at_ : Int) + 1) (n := m.at_ + 1) HR0.out (by omega)
  have HR := Lib.hid (hR2.alloc (.cells #[.int .i64 17, .int .i64 (a : Nat), .int .i64 (b : Nat), .int .i64 (c : Nat), .int .i64 n, .int .u64 (k : Nat)] 77))
  have HX := Lib.hid (Cells.newAt (w.setCell ⟨g, 2, none⟩ (.int .i64 ((m.at_ : Int) + 1))) 77 #[.int .i64 17, .int .i64 (a : Nat), .int .i64 (b : Nat), .int .i64 (c : Nat), .int .i64 n, .int .u64 (k : Nat)] w.heap.size (by simp [World.setCell]))
  have HT := Lib.hid (show Turns (mOwn g nv pv) w _ from (turns_g ht2).alloc (.cells #[.int .i64 17, .int .i64 (a : Nat), .int .i64 (b : Nat), .int .i64 (c : Nat), .int .i64 n, .int .u64 (k : Nat)] 77))
  have HB : Hid (w.heap.size ≤ ((w.setCell ⟨g, 2, none⟩ (.int .i64 ((m.at_ : Int) + 1))).alloc (.cells #[.int .i64 17, .int .i64 (a : Nat), .int .i64 (b : Nat), .int .i64 (c : Nat), .int .i64 n, .int .u64 (k : Nat)] 77)).heap.size) := Lib.hid HT.out.size
  clear hR2 ht2 c2 c2f HR0
  generalize (w.setCell ⟨g, 2, none⟩ (.int .i64 ((m.at_ : Int) + 1))).alloc (.cells #[.int .i64 17, .int .i64 (a : Nat), .int .i64 (b : Nat), .int .i64 (c : Nat), .int .i64 n, .int .u64 (k : Nat)] 77) = w2 at *
  have y0 : w2.cell? ⟨w.heap.size, 0, none⟩ = some (.int .i64 17) := HX.out.cell (j := 0) rfl
  have y1 : w2.cell? ⟨w.heap.size, 1, none⟩ = some (.int .i64 (a : Nat)) := HX.out.cell (j := 1) rfl
  have y4 : w2.cell? ⟨w.heap.size, 4, none⟩ = some (.int .i64 n) := HX.out.cell (j := 4) rfl
  have d2 : w2.cell? ⟨g, 2, none⟩ = some (.int .i64 ((m.at_ + 1 : Nat) : Int)) := HR.out.cells.cell (j := 2) rfl
  have d2f := HR.out.cells.fz 2
  obtain ⟨As, cap, rfl⟩ := own_slice HR.out.places
  have d13 : w2.cell? ⟨g, 13, none⟩ = some (.slice As m.places.length cap) := HR.out.cells.cell (j := 13) rfl
  rw [hfull] at d13
  clear hfull
  go_wp2
  go_ret
  first | exact ⟨_, _, rfl, .inl rfl, .inl rfl, by rw [← HMX.out]; exact HR.out, HT.out⟩ | exact ⟨rfl, _, .inl rfl, _, .inl rfl, by rw [← HMX.out]; exact HR.out, HT.out⟩

set_option maxRecDepth 100000 in
set_option maxHeartbeats 4000000 in
theorem rflow_retempty {w : World} {g : Nat} {cs nv pv : Value} {m : Mach} (hR : Rw w g cs nv pv m) (hF : m.Fit) (hat : m.at_ < m.code.length) (a b c : Nat) (ha : a < 8) (n : Int) (k : Nat) (hfull : m.places.length = 0) :
    Calls Tryz.prog 33 #[.pointer (some ⟨g, 0, none⟩), .agg #[.int .i64 18, .int .i64 (a : Nat), .int .i64 (b : Nat), .int .i64 (c : Nat), .int .i64 n, .int .u64 (k : Nat)]] w fun e w' => ∃ nv' pv', e = .returned (.int .i64 3) ∧ Anew w nv nv' ∧ Anew w pv pv' ∧ Rw w' g cs nv' pv' { m with at_ := m.at_ + 1 } ∧ Turns (mOwn g nv pv) w w' := by
  have HR0 := Lib.hid hR
  have hlt := hR.lt
  have h64 : m.at_ < 64 := Nat.lt_of_lt_of_le hat hF.len.2
  have c2 : w.cell? ⟨g, 2, none⟩ = some (.int .i64 (m.at_ : Nat)) := hR.cells.cell (j := 2) rfl
  have c2f := hR.cells.fz 2
  have hwr : wrap64 ((m.at_ : Int) + 1) = (m.at_ : Int) + 1 := by unfold wrap64; omega
  have HF := Lib.hid hF
  obtain ⟨Mx, hMx⟩ : ∃ q : Mach, { m with at_ := m.at_ + 1 } = q := ⟨_, rfl⟩
  rw [hMx]
  have HMX := Lib.hid hMx
  clear hR hF hat hMx
  go_enter Tryz.func33, Tryz.ntmps33
  go_upto_region 2 with fail
  obtain ⟨hR2, ht2⟩ := rat_stored (v := (m.at_ : Int) + 1) (n := m.at_ + 1) HR0.out (by omega)
  have HR := Lib.hid (hR2.alloc (.cells #[.int .i64 18, .int .i64 (a : Nat), .int .i64 (b : Nat), .int .i64 (c : Nat), .int .i64 n, .int .u64 (k : Nat)] 77))
  have HX := Lib.hid (Cells.newAt (w.setCell ⟨g, 2, none⟩ (.int .i64 ((m.at_ : Int) + 1))) 77 #[.int .i64 18, .int .i64 (a : Nat), .int .i64 (b : Nat), .int .i64 (c : Nat), .int .i64 n, .int .u64 (k : Nat)] w.heap.size (by simp [World.setCell]))
  have HT := Lib.hid (show Turns (mOwn g nv pv) w _ from (turns_g ht2).alloc (.cells #[.int .i64 18, .int .i64 (a : Nat), .int .i64 (b : Nat), .int .i64 (c : Nat), .int .i64 n, .int .u64 (k : Nat)] 77))
  have HB : Hid (w.heap.size ≤ ((w.setCell ⟨g, 2, none⟩ (.int .i64 ((m.at_ : Int) + 1))).alloc (.cells #[.int .i64 18, .int .i64 (a : Nat), .int .i64 (b : Nat), .int .i64 (c : Nat), .int .i64 n, .int .u64 (k : Nat)] 77)).heap.size) := Lib.hid HT.out.size
  clear hR2 ht2 c2 c2f HR0
  generalize (w.setCell ⟨g, 2, none⟩ (.int .i64 ((m.at_ : Int) + 1))).alloc (.cells #[.int .i64 18, .int .i64 (a : Nat), .int .i64 (b : Nat), .int .i64 (c : Nat), .int .i64 n, .int .u64 (k : Nat)] 77) = w2 at *
  have y0 : w2.cell? ⟨w.heap.size, 0, none⟩ = some (.int .i64 18) := HX.out.cell (j := 0) rfl
  have y1 : w2.cell? ⟨w.heap.size, 1, none⟩ = some (.int .i64 (a : Nat)) := HX.out.cell (j := 1) rfl
  have y4 : w2.cell? ⟨w.heap.size, 4, none⟩ = some (.int .i64 n) := HX.out.cell (j := 4) rfl
  have d2 : w2.cell? ⟨g, 2, none⟩ = some (.int .i64 ((m.at_ + 1 : Nat) : Int)) := HR.out.cells.cell (j := 2) rfl
  have d2f := HR.out.cells.fz 2
  obtain ⟨As, cap, rfl⟩ := own_slice HR.out.places
  have d13 : w2.cell? ⟨g, 13, none⟩ = some (.slice As m.places.length cap) := HR.out.cells.cell (j := 13) rfl
  rw [hfull] at d13
  clear hfull
  go_wp2
  go_ret
  first | exact ⟨_, _, rfl, .inl rfl, .inl rfl, by rw [← HMX.out]; exact HR.out, HT.out⟩ | exact ⟨rfl, _, .inl rfl, _, .inl rfl, by rw [← HMX.out]; exact HR.out, HT.out⟩

set_option maxRecDepth 100000 in
set_option maxHeartbeats 4000000 in
theorem rflow_pushfull {w : World} {g : Nat} {cs nv pv : Value} {m : Mach} (hR : Rw w g cs nv pv m) (hF : m.Fit) (hat : m.at_ < m.code.length) (a b c : Nat) (ha : a < 8) (n : Int) (k : Nat) (hfull : m.nums.length = 8) :
    Calls Tryz.prog 33 #[.pointer (some ⟨g, 0, none⟩), .agg #[.int .i64 19, .int .i64 (a : Nat), .int .i64 (b : Nat), .int .i64 (c : Nat), .int .i64 n, .int .u64 (k : Nat)]] w fun e w' => ∃ nv' pv', e = .returned (.int .i64 2) ∧ Anew w nv nv' ∧ Anew w pv pv' ∧ Rw w' g cs nv' pv' { m with at_ := m.at_ + 1 } ∧ Turns (mOwn g nv pv) w w' := by
  have HR0 := Lib.hid hR
  have hlt := hR.lt
  have h64 : m.at_ < 64 := Nat.lt_of_lt_of_le hat hF.len.2
  have c2 : w.cell? ⟨g, 2, none⟩ = some (.int .i64 (m.at_ : Nat)) := hR.cells.cell (j := 2) rfl
  have c2f := hR.cells.fz 2
  have hwr : wrap64 ((m.at_ : Int) + 1) = (m.at_ : Int) + 1 := by unfold wrap64; omega
  have HF := Lib.hid hF
  obtain ⟨Mx, hMx⟩ : ∃ q : Mach, { m with at_ := m.at_ + 1 } = q := ⟨_, rfl⟩
  rw [hMx]
  have HMX := Lib.hid hMx
  clear hR hF hat hMx
  go_enter Tryz.func33, Tryz.ntmps33
  go_upto_region 2 with fail
  obtain ⟨hR2, ht2⟩ := rat_stored (v := (m.at_ : Int) + 1) (n := m.at_ + 1) HR0.out (by omega)
  have HR := Lib.hid (hR2.alloc (.cells #[.int .i64 19, .int .i64 (a : Nat), .int .i64 (b : Nat), .int .i64 (c : Nat), .int .i64 n, .int .u64 (k : Nat)] 77))
  have HX := Lib.hid (Cells.newAt (w.setCell ⟨g, 2, none⟩ (.int .i64 ((m.at_ : Int) + 1))) 77 #[.int .i64 19, .int .i64 (a : Nat), .int .i64 (b : Nat), .int .i64 (c : Nat), .int .i64 n, .int .u64 (k : Nat)] w.heap.size (by simp [World.setCell]))
  have HT := Lib.hid (show Turns (mOwn g nv pv) w _ from (turns_g ht2).alloc (.cells #[.int .i64 19, .int .i64 (a : Nat), .int .i64 (b : Nat), .int .i64 (c : Nat), .int .i64 n, .int .u64 (k : Nat)] 77))
  have HB : Hid (w.heap.size ≤ ((w.setCell ⟨g, 2, none⟩ (.int .i64 ((m.at_ : Int) + 1))).alloc (.cells #[.int .i64 19, .int .i64 (a : Nat), .int .i64 (b : Nat), .int .i64 (c : Nat), .int .i64 n, .int .u64 (k : Nat)] 77)).heap.size) := Lib.hid HT.out.size
  clear hR2 ht2 c2 c2f HR0
  generalize (w.setCell ⟨g, 2, none⟩ (.int .i64 ((m.at_ : Int) + 1))).alloc (.cells #[.int .i64 19, .int .i64 (a : Nat), .int .i64 (b : Nat), .int .i64 (c : Nat), .int .i64 n, .int .u64 (k : Nat)] 77) = w2 at *
  have y0 : w2.cell? ⟨w.heap.size, 0, none⟩ = some (.int .i64 19) := HX.out.cell (j := 0) rfl
  have y1 : w2.cell? ⟨w.heap.size, 1, none⟩ = some (.int .i64 (a : Nat)) := HX.out.cell (j := 1) rfl
  have y4 : w2.cell? ⟨w.heap.size, 4, none⟩ = some (.int .i64 n) := HX.out.cell (j := 4) rfl
  have d2 : w2.cell? ⟨g, 2, none⟩ = some (.int .i64 ((m.at_ + 1 : Nat) : Int)) := HR.out.cells.cell (j := 2) rfl
  have d2f := HR.out.cells.fz 2
  obtain ⟨As, cap, rfl⟩ := own_slice HR.out.nums
  have d13 : w2.cell? ⟨g, 12, none⟩ = some (.slice As m.nums.length cap) := HR.out.cells.cell (j := 12) rfl
  rw [hfull] at d13
  clear hfull
  go_wp2
  go_ret
  first | exact ⟨_, _, rfl, .inl rfl, .inl rfl, by rw [← HMX.out]; exact HR.out, HT.out⟩ | exact ⟨rfl, _, .inl rfl, _, .inl rfl, by rw [← HMX.out]; exact HR.out, HT.out⟩

set_option maxRecDepth 100000 in
set_option maxHeartbeats 4000000 in
theorem rflow_popempty {w : World} {g : Nat} {cs nv pv : Value} {m : Mach} (hR : Rw w g cs nv pv m) (hF : m.Fit) (hat : m.at_ < m.code.length) (a b c : Nat) (ha : a < 8) (n : Int) (k : Nat) (hfull : m.nums.length = 0) :
    Calls Tryz.prog 33 #[.pointer (some ⟨g, 0, none⟩), .agg #[.int .i64 20, .int .i64 (a : Nat), .int .i64 (b : Nat), .int .i64 (c : Nat), .int .i64 n, .int .u64 (k : Nat)]] w fun e w' => ∃ nv' pv', e = .returned (.int .i64 3) ∧ Anew w nv nv' ∧ Anew w pv pv' ∧ Rw w' g cs nv' pv' { m with at_ := m.at_ + 1 } ∧ Turns (mOwn g nv pv) w w' := by
  have HR0 := Lib.hid hR
  have hlt := hR.lt
  have h64 : m.at_ < 64 := Nat.lt_of_lt_of_le hat hF.len.2
  have c2 : w.cell? ⟨g, 2, none⟩ = some (.int .i64 (m.at_ : Nat)) := hR.cells.cell (j := 2) rfl
  have c2f := hR.cells.fz 2
  have hwr : wrap64 ((m.at_ : Int) + 1) = (m.at_ : Int) + 1 := by unfold wrap64; omega
  have HF := Lib.hid hF
  obtain ⟨Mx, hMx⟩ : ∃ q : Mach, { m with at_ := m.at_ + 1 } = q := ⟨_, rfl⟩
  rw [hMx]
  have HMX := Lib.hid hMx
  clear hR hF hat hMx
  go_enter Tryz.func33, Tryz.ntmps33
  go_upto_region 2 with fail
  obtain ⟨hR2, ht2⟩ := rat_stored (v := (m.at_ : Int) + 1) (n := m.at_ + 1) HR0.out (by omega)
  have HR := Lib.hid (hR2.alloc (.cells #[.int .i64 20, .int .i64 (a : Nat), .int .i64 (b : Nat), .int .i64 (c : Nat), .int .i64 n, .int .u64 (k : Nat)] 77))
  have HX := Lib.hid (Cells.newAt (w.setCell ⟨g, 2, none⟩ (.int .i64 ((m.at_ : Int) + 1))) 77 #[.int .i64 20, .int .i64 (a : Nat), .int .i64 (b : Nat), .int .i64 (c : Nat), .int .i64 n, .int .u64 (k : Nat)] w.heap.size (by simp [World.setCell]))
  have HT := Lib.hid (show Turns (mOwn g nv pv) w _ from (turns_g ht2).alloc (.cells #[.int .i64 20, .int .i64 (a : Nat), .int .i64 (b : Nat), .int .i64 (c : Nat), .int .i64 n, .int .u64 (k : Nat)] 77))
  have HB : Hid (w.heap.size ≤ ((w.setCell ⟨g, 2, none⟩ (.int .i64 ((m.at_ : Int) + 1))).alloc (.cells #[.int .i64 20, .int .i64 (a : Nat), .int .i64 (b : Nat), .int .i64 (c : Nat), .int .i64 n, .int .u64 (k : Nat)] 77)).heap.size) := Lib.hid HT.out.size
  clear hR2 ht2 c2 c2f HR0
  generalize (w.setCell ⟨g, 2, none⟩ (.int .i64 ((m.at_ : Int) + 1))).alloc (.cells #[.int .i64 20, .int .i64 (a : Nat), .int .i64 (b : Nat), .int .i64 (c : Nat), .int .i64 n, .int .u64 (k : Nat)] 77) = w2 at *
  have y0 : w2.cell? ⟨w.heap.size, 0, none⟩ = some (.int .i64 20) := HX.out.cell (j := 0) rfl
  have y1 : w2.cell? ⟨w.heap.size, 1, none⟩ = some (.int .i64 (a : Nat)) := HX.out.cell (j := 1) rfl
  have y4 : w2.cell? ⟨w.heap.size, 4, none⟩ = some (.int .i64 n) := HX.out.cell (j := 4) rfl
  have d2 : w2.cell? ⟨g, 2, none⟩ = some (.int .i64 ((m.at_ + 1 : Nat) : Int)) := HR.out.cells.cell (j := 2) rfl
  have d2f := HR.out.cells.fz 2
  obtain ⟨As, cap, rfl⟩ := own_slice HR.out.nums
  have d13 : w2.cell? ⟨g, 12, none⟩ = some (.slice As m.nums.length cap) := HR.out.cells.cell (j := 12) rfl
  rw [hfull] at d13
  clear hfull
  go_wp2
  go_ret
  first | exact ⟨_, _, rfl, .inl rfl, .inl rfl, by rw [← HMX.out]; exact HR.out, HT.out⟩ | exact ⟨rfl, _, .inl rfl, _, .inl rfl, by rw [← HMX.out]; exact HR.out, HT.out⟩

set_option maxRecDepth 100000 in
set_option maxHeartbeats 4000000 in
theorem rflow_ret {w : World} {g : Nat} {cs nv pv : Value} {m : Mach} (hR : Rw w g cs nv pv m) (hF : m.Fit) (hat : m.at_ < m.code.length) (a b c : Nat) (ha : a < 8) (n : Int) (k : Nat) {n0 : Nat} (hn0 : m.places.length = n0 + 1) :
    Calls Tryz.prog 33 #[.pointer (some ⟨g, 0, none⟩), .agg #[.int .i64 18, .int .i64 (a : Nat), .int .i64 (b : Nat), .int .i64 (c : Nat), .int .i64 n, .int .u64 (k : Nat)]] w fun e w' => ∃ nv' pv', e = .returned (.int .i64 0) ∧ Anew w nv nv' ∧ Anew w pv pv' ∧ Rw w' g cs nv' pv' { m with places := m.places.dropLast, at_ := m.places.getLastD 0 } ∧ Turns (mOwn g nv pv) w w' := by
  have HR0 := Lib.hid hR
  have hlt := hR.lt
  have h64 : m.at_ < 64 := Nat.lt_of_lt_of_le hat hF.len.2
  have c2 : w.cell? ⟨g, 2, none⟩ = some (.int .i64 (m.at_ : Nat)) := hR.cells.cell (j := 2) rfl
  have c2f := hR.cells.fz 2
  have hwr : wrap64 ((m.at_ : Int) + 1) = (m.at_ : Int) + 1 := by unfold wrap64; omega
  have HF := Lib.hid hF
  obtain ⟨Mx, hMx⟩ : ∃ q : Mach, { m with places := m.places.dropLast, at_ := m.places.getLastD 0 } = q := ⟨_, rfl⟩
  rw [hMx]
  have HMX := Lib.hid hMx
  clear hR hF hat hMx
  go_enter Tryz.func33, Tryz.ntmps33
  go_upto_region 2 with fail
  obtain ⟨hR2, ht2⟩ := rat_stored (v := (m.at_ : Int) + 1) (n := m.at_ + 1) HR0.out (by omega)
  have HR := Lib.hid (hR2.alloc (.cells #[.int .i64 18, .int .i64 (a : Nat), .int .i64 (b : Nat), .int .i64 (c : Nat), .int .i64 n, .int .u64 (k : Nat)] 77))
  have HX := Lib.hid (Cells.newAt (w.setCell ⟨g, 2, none⟩ (.int .i64 ((m.at_ : Int) + 1))) 77 #[.int .i64 18, .int .i64 (a : Nat), .int .i64 (b : Nat), .int .i64 (c : Nat), .int .i64 n, .int .u64 (k : Nat)] w.heap.size (by simp [World.setCell]))
  have HT := Lib.hid (show Turns (mOwn g nv pv) w _ from (turns_g ht2).alloc (.cells #[.int .i64 18, .int .i64 (a : Nat), .int .i64 (b : Nat), .int .i64 (c : Nat), .int .i64 n, .int .u64 (k : Nat)] 77))
  have HB : Hid (w.heap.size ≤ ((w.setCell ⟨g, 2, none⟩ (.int .i64 ((m.at_ : Int) + 1))).alloc (.cells #[.int .i64 18, .int .i64 (a : Nat), .int .i64 (b : Nat), .int .i64 (c : Nat), .int .i64 n, .int .u64 (k : Nat)] 77)).heap.size) := Lib.hid HT.out.size
  clear hR2 ht2 c2 c2f HR0
  generalize (w.setCell ⟨g, 2, none⟩ (.int .i64 ((m.at_ : Int) + 1))).alloc (.cells #[.int .i64 18, .int .i64 (a : Nat), .int .i64 (b : Nat), .int .i64 (c : Nat), .int .i64 n, .int .u64 (k : Nat)] 77) = w2 at *
  have y0 : w2.cell? ⟨w.heap.size, 0, none⟩ = some (.int .i64 18) := HX.out.cell (j := 0) rfl
  have y1 : w2.cell? ⟨w.heap.size, 1, none⟩ = some (.int .i64 (a : Nat)) := HX.out.cell (j := 1) rfl
  have y4 : w2.cell? ⟨w.heap.size, 4, none⟩ = some (.int .i64 n) := HX.out.cell (j := 4) rfl
  have d2 : w2.cell? ⟨g, 2, none⟩ = some (.int .i64 ((m.at_ + 1 : Nat) : Int)) := HR.out.cells.cell (j := 2) rfl
  have d2f := HR.out.cells.fz 2
  obtain ⟨As, cap, rfl⟩ := own_slice HR.out.places
  have hrow := HR.out.places
  dsimp only at hrow
  rw [hn0] at hrow
  obtain ⟨bp, rfl, hcell, hcap, _⟩ := own_pop hrow
  have hlast : (m.places.map I)[n0]? = some (.int .i64 ((m.places.getLastD 0 : Nat) : Int)) := by
    rw [List.getElem?_map]
    have : m.places[n0]? = some (m.places.getLastD 0) := by
      rw [List.getLastD_eq_getLast?, List.getLast?_eq_getElem?, hn0]
      simp only [Nat.add_sub_cancel]
      rw [List.getElem?_eq_getElem (by omega)]
      rfl
    rw [this]
    rfl
  rw [hlast] at hcell
  have d13 : ∀ y : BW w2, y.val.cell? ⟨g, 13, none⟩ = some (.slice (some ⟨bp, 0, none⟩) (n0 + 1) cap) := fun y => hn0 ▸ (HR.out.keep y.below).cells.cell (j := 13) rfl
  have dp : ∀ y : BW w2, y.val.cell? ⟨bp, n0, none⟩ = some (.int .i64 ((m.places.getLastD 0 : Nat) : Int)) := fun y => y.cell hcell
  have d13w : w2.cell? ⟨g, 13, none⟩ = some (.slice (some ⟨bp, 0, none⟩) (n0 + 1) cap) := hn0 ▸ HR.out.cells.cell (j := 13) rfl
  obtain ⟨j0, j1, j2, j3, j4⟩ := pop_ints (n0 := n0) (cap := cap) (by rw [← hn0]; exact HF.out.plen) hcap
  have j5 : IntKind.i64.wrap (n0 : Int) = (n0 : Int) := by have := HF.out.plen; rw [IntKind.wrap_i64]; omega
  have HN0 := Lib.hid hn0
  clear hrow hlast hcell hn0
  generalize m.places.getLastD 0 = lastp at *
  go_upto_region 21 with fail
  refine wp_region_bw_tail (w := w2) 15 (by kernel_rfl) (by kernel_rfl) ?_
  simp only [List.take_succ_cons, List.take_zero, List.drop_succ_cons, List.drop_zero]
  repeat (refine wpQuiet_step (fun K hK => ?_); go_simp; first | (refine hK _ ?_; clear hK K) | (apply Exists.intro; refine ⟨fun _ => ?_, hK _ ?_⟩; (fail); clear hK K))
  refine wpQuiet_nil ?_
  intro yq
  have HRz := Lib.hid (HR.out.keep yq.below)
  have HTz := Lib.hid (HT.out.trans (Turns.of_below yq.below))
  clear HR HT HX d13 dp d13w y0 y1 y4 d2 d2f HB
  generalize yq.val = wz at *
  have d2 : wz.cell? ⟨g, 2, none⟩ = some (.int .i64 ((m.at_ + 1 : Nat) : Int)) := HRz.out.cells.cell (j := 2) rfl
  have d2f := HRz.out.cells.fz 2
  go_upto_region 22 with fail
  obtain ⟨hr3, ht3⟩ := rat_stored (v := (lastp : Nat)) (n := lastp) HRz.out rfl
  have HR3 := Lib.hid hr3
  have HT3 := Lib.hid (HTz.out.trans (turns_g ht3))
  clear HRz HTz hr3 ht3 d2 d2f
  generalize wz.setCell ⟨g, 2, none⟩ (.int .i64 (lastp : Nat)) = w3 at *
  have d13 : ∀ y : BW w3, y.val.cell? ⟨g, 13, none⟩ = some (.slice (some ⟨bp, 0, none⟩) (n0 + 1) cap) := fun y => HN0.out ▸ (HR3.out.keep y.below).cells.cell (j := 13) rfl
  refine wp_region_bw_tail (w := w3) 14 (by kernel_rfl) (by kernel_rfl) ?_
  simp only [List.take_succ_cons, List.take_zero, List.drop_succ_cons, List.drop_zero]
  repeat (refine wpQuiet_step (fun K hK => ?_); go_simp; first | (refine hK _ ?_; clear hK K) | (apply Exists.intro; refine ⟨fun _ => ?_, hK _ ?_⟩; (fail); clear hK K))
  refine wpQuiet_nil ?_
  intro yq
  have HR4 := Lib.hid (HR3.out.keep yq.below)
  have HT4 := Lib.hid (HT3.out.trans (Turns.of_below yq.below))
  clear HR3 HT3 d13
  generalize yq.val = w4 at *
  have d13 : w4.cell? ⟨g, 13, none⟩ = some (.slice (some ⟨bp, 0, none⟩) (n0 + 1) cap) := HN0.out ▸ HR4.out.cells.cell (j := 13) rfl
  have d13f := HR4.out.cells.fz 13
  go_wp2
  go_ret
  have hr5 := HR4.out
  rw [HN0.out] at hr5
  obtain ⟨hp1, hp2⟩ := runplaced (n := n0) hr5 HN0.out
  have ht5 := HT4.out
  rw [HN0.out] at ht5 ⊢
  first | exact ⟨_, .slice (some ⟨bp, 0, none⟩) n0 cap, rfl, .inl rfl, .inl rfl, by rw [← HMX.out]; exact hp1, ht5.trans hp2⟩ | exact ⟨rfl, _, .inl rfl, .slice (some ⟨bp, 0, none⟩) n0 cap, .inl rfl, by rw [← HMX.out]; exact hp1, ht5.trans hp2⟩

set_option maxRecDepth 100000 in
set_option maxHeartbeats 4000000 in
theorem rflow_pop {w : World} {g : Nat} {cs nv pv : Value} {m : Mach} (hR : Rw w g cs nv pv m) (hF : m.Fit) (hat : m.at_ < m.code.length) (a b c : Nat) (ha : a < 8) (n : Int) (k : Nat) {n0 : Nat} (hn0 : m.nums.length = n0 + 1) :
    Calls Tryz.prog 33 #[.pointer (some ⟨g, 0, none⟩), .agg #[.int .i64 20, .int .i64 (a : Nat), .int .i64 (b : Nat), .int .i64 (c : Nat), .int .i64 n, .int .u64 (k : Nat)]] w fun e w' => ∃ nv' pv', e = .returned (.int .i64 0) ∧ Anew w nv nv' ∧ Anew w pv pv' ∧ Rw w' g cs nv' pv' { m with regs := m.regs.set a (m.nums.getLastD 0), nums := m.nums.dropLast, at_ := m.at_ + 1 } ∧ Turns (mOwn g nv pv) w w' := by
  have HR0 := Lib.hid hR
  have hlt := hR.lt
  have h64 : m.at_ < 64 := Nat.lt_of_lt_of_le hat hF.len.2
  have c2 : w.cell? ⟨g, 2, none⟩ = some (.int .i64 (m.at_ : Nat)) := hR.cells.cell (j := 2) rfl
  have c2f := hR.cells.fz 2
  have hwr : wrap64 ((m.at_ : Int) + 1) = (m.at_ : Int) + 1 := by unfold wrap64; omega
  have HF := Lib.hid hF
  obtain ⟨Mx, hMx⟩ : ∃ q : Mach, { m with regs := m.regs.set a (m.nums.getLastD 0), nums := m.nums.dropLast, at_ := m.at_ + 1 } = q := ⟨_, rfl⟩
  rw [hMx]
  have HMX := Lib.hid hMx
  clear hR hF hat hMx
  go_enter Tryz.func33, Tryz.ntmps33
  go_upto_region 2 with fail
  obtain ⟨hR2, ht2⟩ := rat_stored (v := (m.at_ : Int) + 1) (n := m.at_ + 1) HR0.out (by omega)
  have HR := Lib.hid (hR2.alloc (.cells #[.int .i64 20, .int .i64 (a : Nat), .int .i64 (b : Nat), .int .i64 (c : Nat), .int .i64 n, .int .u64 (k : Nat)] 77))
  have HX := Lib.hid (Cells.newAt (w.setCell ⟨g, 2, none⟩ (.int .i64 ((m.at_ : Int) + 1))) 77 #[.int .i64 20, .int .i64 (a : Nat), .int .i64 (b : Nat), .int .i64 (c : Nat), .int .i64 n, .int .u64 (k : Nat)] w.heap.size (by simp [World.setCell]))
  have HT := Lib.hid (show Turns (mOwn g nv pv) w _ from (turns_g ht2).alloc (.cells #[.int .i64 20, .int .i64 (a : Nat), .int .i64 (b : Nat), .int .i64 (c : Nat), .int .i64 n, .int .u64 (k : Nat)] 77))
  have HB : Hid (w.heap.size ≤ ((w.setCell ⟨g, 2, none⟩ (.int .i64 ((m.at_ : Int) + 1))).alloc (.cells #[.int .i64 20, .int .i64 (a : Nat), .int .i64 (b : Nat), .int .i64 (c : Nat), .int .i64 n, .int .u64 (k : Nat)] 77)).heap.size) := Lib.hid HT.out.size
  clear hR2 ht2 c2 c2f HR0
  generalize (w.setCell ⟨g, 2, none⟩ (.int .i64 ((m.at_ : Int) + 1))).alloc (.cells #[.int .i64 20, .int .i64 (a : Nat), .int .i64 (b : Nat), .int .i64 (c : Nat), .int .i64 n, .int .u64 (k : Nat)] 77) = w2 at *
  have y0 : w2.cell? ⟨w.heap.size, 0, none⟩ = some (.int .i64 20) := HX.out.cell (j := 0) rfl
  have y1 : w2.cell? ⟨w.heap.size, 1, none⟩ = some (.int .i64 (a : Nat)) := HX.out.cell (j := 1) rfl
  have y4 : w2.cell? ⟨w.heap.size, 4, none⟩ = some (.int .i64 n) := HX.out.cell (j := 4) rfl
  have d2 : w2.cell? ⟨g, 2, none⟩ = some (.int .i64 ((m.at_ + 1 : Nat) : Int)) := HR.out.cells.cell (j := 2) rfl
  have d2f := HR.out.cells.fz 2
  obtain ⟨As, cap, rfl⟩ := own_slice HR.out.nums
  have hrow := HR.out.nums
  dsimp only at hrow
  rw [hn0] at hrow
  obtain ⟨bp, rfl, hcell, hcap, _⟩ := own_pop hrow
  have hlast : (m.nums.map U)[n0]? = some (.int .u64 ((m.nums.getLastD 0 : Nat) : Int)) := by
    rw [List.getElem?_map]
    have : m.nums[n0]? = some (m.nums.getLastD 0) := by
      rw [List.getLastD_eq_getLast?, List.getLast?_eq_getElem?, hn0]
      simp only [Nat.add_sub_cancel]
      rw [List.getElem?_eq_getElem (by omega)]
      rfl
    rw [this]
    rfl
  rw [hlast] at hcell
  have d12 : ∀ y : BW w2, y.val.cell? ⟨g, 12, none⟩ = some (.slice (some ⟨bp, 0, none⟩) (n0 + 1) cap) := fun y => hn0 ▸ (HR.out.keep y.below).cells.cell (j := 12) rfl
  have dp : ∀ y : BW w2, y.val.cell? ⟨bp, n0, none⟩ = some (.int .u64 ((m.nums.getLastD 0 : Nat) : Int)) := fun y => y.cell hcell
  have yy1 : ∀ y : BW w2, y.val.cell? ⟨w.heap.size, 1, none⟩ = some (.int .i64 (a : Nat)) := fun y => y.cell y1
  have d12w : w2.cell? ⟨g, 12, none⟩ = some (.slice (some ⟨bp, 0, none⟩) (n0 + 1) cap) := hn0 ▸ HR.out.cells.cell (j := 12) rfl
  obtain ⟨j0, j1, j2, j3, j4⟩ := pop_ints (n0 := n0) (cap := cap) (by rw [← hn0]; exact HF.out.nlen) hcap
  have j5 : IntKind.i64.wrap (n0 : Int) = (n0 : Int) := by have := HF.out.nlen; rw [IntKind.wrap_i64]; omega
  have i0 : (0 : Int) ≤ a := by omega
  have i1 : (a : Int) < 8 := by omega
  have HN0 := Lib.hid hn0
  have HL := Lib.hid (Eq.refl (m.nums.getLastD 0))
  clear hrow hlast hcell hn0
  obtain ⟨lastp, hlp⟩ : ∃ q, m.nums.getLastD 0 = q := ⟨_, rfl⟩
  rw [hlp] at dp
  have HLP := Lib.hid hlp
  clear hlp HL
  go_upto_region 30 with fail
  refine wp_region_bw_tail (w := w2) 18 (by kernel_rfl) (by kernel_rfl) ?_
  simp only [List.take_succ_cons, List.take_zero, List.drop_succ_cons, List.drop_zero]
  repeat (refine wpQuiet_step (fun K hK => ?_); go_simp; first | (refine hK _ ?_; clear hK K) | (apply Exists.intro; refine ⟨fun _ => ?_, hK _ ?_⟩; (fail); clear hK K))
  refine wpQuiet_nil ?_
  intro yq
  have HRz := Lib.hid (HR.out.keep yq.below)
  have HTz := Lib.hid (HT.out.trans (Turns.of_below yq.below))
  clear HR HT HX d12 d12w dp yy1 y0 y1 y4 d2 d2f HB
  generalize yq.val = wz at *
  have r0 := HRz.out.cells.cell (cells_reg _ cs _ pv a ha)
  have r0f := HRz.out.cells.fz (4 + a)
  go_upto_region 31 with fail
  obtain ⟨hs1, hs2⟩ := rreg_stored (v := lastp) HRz.out ha HF.out.rlen
  have HR3 := Lib.hid hs1
  have HT3 := Lib.hid (HTz.out.trans (turns_g hs2))
  clear hs1 hs2 r0 r0f HRz HTz
  generalize wz.setCell ⟨g, 4 + a, none⟩ (.int .u64 (lastp : Nat)) = w3 at *
  have d12 : ∀ y : BW w3, y.val.cell? ⟨g, 12, none⟩ = some (.slice (some ⟨bp, 0, none⟩) (n0 + 1) cap) := fun y => HN0.out ▸ (HR3.out.keep y.below).cells.cell (j := 12) rfl
  refine wp_region_bw_tail (w := w3) 14 (by kernel_rfl) (by kernel_rfl) ?_
  simp only [List.take_succ_cons, List.take_zero, List.drop_succ_cons, List.drop_zero]
  repeat (refine wpQuiet_step (fun K hK => ?_); go_simp; first | (refine hK _ ?_; clear hK K) | (apply Exists.intro; refine ⟨fun _ => ?_, hK _ ?_⟩; (fail); clear hK K))
  refine wpQuiet_nil ?_
  intro yq
  have HR4 := Lib.hid (HR3.out.keep yq.below)
  have HT4 := Lib.hid (HT3.out.trans (Turns.of_below yq.below))
  clear HR3 HT3 d12
  generalize yq.val = w4 at *
  have d12 : w4.cell? ⟨g, 12, none⟩ = some (.slice (some ⟨bp, 0, none⟩) (n0 + 1) cap) := HN0.out ▸ HR4.out.cells.cell (j := 12) rfl
  have d12f := HR4.out.cells.fz 12
  go_wp2
  go_ret
  have hr5 := HR4.out
  rw [HN0.out] at hr5
  obtain ⟨hp1, hp2⟩ := runpushed (n := n0) hr5 HN0.out
  have ht5 := HT4.out
  rw [HN0.out] at ht5 ⊢
  first | exact ⟨.slice (some ⟨bp, 0, none⟩) n0 cap, _, rfl, .inl rfl, .inl rfl, by rw [← HMX.out, HLP.out]; exact hp1, ht5.trans hp2⟩ | exact ⟨rfl, .slice (some ⟨bp, 0, none⟩) n0 cap, .inl rfl, _, .inl rfl, by rw [← HMX.out, HLP.out]; exact hp1, ht5.trans hp2⟩

set_option maxRecDepth 100000 in
set_option maxHeartbeats 4000000 in
theorem rflow_call {w : World} {g : Nat} {cs nv pv : Value} {m : Mach} (hR : Rw w g cs nv pv m) (hF : m.Fit) (hat : m.at_ < m.code.length) (a b c : Nat) (ha : a < 8) (n : Int) (k : Nat) (hn : 0 ≤ n) (hfull : m.places.length < 8) :
    Calls Tryz.prog 33 #[.pointer (some ⟨g, 0, none⟩), .agg #[.int .i64 17, .int .i64 (a : Nat), .int .i64 (b : Nat), .int .i64 (c : Nat), .int .i64 n, .int .u64 (k : Nat)]] w fun e w' => ∃ nv' pv', e = .returned (.int .i64 0) ∧ Anew w nv nv' ∧ Anew w pv pv' ∧ Rw w' g cs nv' pv' { m with places := m.places ++ [m.at_ + 1], at_ := n.toNat } ∧ Turns (mOwn g nv pv) w w' := by
  have HR0 := Lib.hid hR
  have hlt := hR.lt
  have h64 : m.at_ < 64 := Nat.lt_of_lt_of_le hat hF.len.2
  have c2 : w.cell? ⟨g, 2, none⟩ = some (.int .i64 (m.at_ : Nat)) := hR.cells.cell (j := 2) rfl
  have c2f := hR.cells.fz 2
  have hwr : wrap64 ((m.at_ : Int) + 1) = (m.at_ : Int) + 1 := by unfold wrap64; omega
  have HF := Lib.hid hF
  obtain ⟨Mx, hMx⟩ : ∃ q : Mach, { m with places := m.places ++ [m.at_ + 1], at_ := n.toNat } = q := ⟨_, rfl⟩
  rw [hMx]
  have HMX := Lib.hid hMx
  clear hR hF hat hMx
  go_enter Tryz.func33, Tryz.ntmps33
  go_upto_region 2 with fail
  obtain ⟨hR2, ht2⟩ := rat_stored (v := (m.at_ : Int) + 1) (n := m.at_ + 1) HR0.out (by omega)
  have HR := Lib.hid (hR2.alloc (.cells #[.int .i64 17, .int .i64 (a : Nat), .int .i64 (b : Nat), .int .i64 (c : Nat), .int .i64 n, .int .u64 (k : Nat)] 77))
  have HX := Lib.hid (Cells.newAt (w.setCell ⟨g, 2, none⟩ (.int .i64 ((m.at_ : Int) + 1))) 77 #[.int .i64 17, .int .i64 (a : Nat), .int .i64 (b : Nat), .int .i64 (c : Nat), .int .i64 n, .int .u64 (k : Nat)] w.heap.size (by simp [World.setCell]))
  have HT := Lib.hid (show Turns (mOwn g nv pv) w _ from (turns_g ht2).alloc (.cells #[.int .i64 17, .int .i64 (a : Nat), .int .i64 (b : Nat), .int .i64 (c : Nat), .int .i64 n, .int .u64 (k : Nat)] 77))
  have HB : Hid (w.heap.size ≤ ((w.setCell ⟨g, 2, none⟩ (.int .i64 ((m.at_ : Int) + 1))).alloc (.cells #[.int .i64 17, .int .i64 (a : Nat), .int .i64 (b : Nat), .int .i64 (c : Nat), .int .i64 n, .int .u64 (k : Nat)] 77)).heap.size) := Lib.hid HT.out.size
  clear hR2 ht2 c2 c2f HR0
  generalize (w.setCell ⟨g, 2, none⟩ (.int .i64 ((m.at_ : Int) + 1))).alloc (.cells #[.int .i64 17, .int .i64 (a : Nat), .int .i64 (b : Nat), .int .i64 (c : Nat), .int .i64 n, .int .u64 (k : Nat)] 77) = w2 at *
  have y0 : w2.cell? ⟨w.heap.size, 0, none⟩ = some (.int .i64 17) := HX.out.cell (j := 0) rfl
  have y1 : w2.cell? ⟨w.heap.size, 1, none⟩ = some (.int .i64 (a : Nat)) := HX.out.cell (j := 1) rfl
  have y4 : w2.cell? ⟨w.heap.size, 4, none⟩ = some (.int .i64 n) := HX.out.cell (j := 4) rfl
  have d2 : w2.cell? ⟨g, 2, none⟩ = some (.int .i64 ((m.at_ + 1 : Nat) : Int)) := HR.out.cells.cell (j := 2) rfl
  have d2f := HR.out.cells.fz 2
  obtain ⟨As, cap, rfl⟩ := own_slice HR.out.places
  have d13 : w2.cell? ⟨g, 13, none⟩ = some (.slice As m.places.length cap) := HR.out.cells.cell (j := 13) rfl
  obtain ⟨i1, hq1, hz1, hsz1, hby1⟩ := info_int
  have t8 : ¬ ((m.places.length : Int) = 8) := by omega
  have t8b : ((m.places.length : Int) == 8) = false := by rw [beq_eq_false_iff_ne]; exact t8
  have t9 : m.places.length < 1073741824 := by omega
  clear hfull
  go_upto_region 16 with fail
  have HRa := Lib.hid (show Rw (w2.alloc (.cells #[.int .i64 ((m.at_ + 1 : Nat) : Int)] 3)).drew g cs nv (.slice As m.places.length cap) _ from (HR.out.alloc _).drew)
  have HXa := Lib.hid (show Cells (w2.alloc (.cells #[.int .i64 ((m.at_ + 1 : Nat) : Int)] 3)).drew w.heap.size 77 _ from (HX.out.alloc _).drew)
  have HTa := Lib.hid (show Turns _ w (w2.alloc (.cells #[.int .i64 ((m.at_ + 1 : Nat) : Int)] 3)).drew from (HT.out.alloc _).drew)
  have HROW := Lib.hid HRa.out.places
  have HNEWS := Lib.hid (show ∀ (i : Nat) (u : Value), [.int .i64 ((m.at_ + 1 : Nat) : Int)][i]? = some u → (w2.alloc (.cells #[.int .i64 ((m.at_ + 1 : Nat) : Int)] 3)).drew.cell? ((⟨w2.heap.size, 0, none⟩ : Addr).add i) = some u from World.news_of_block (heap_alloc_new w2 (.cells #[.int .i64 ((m.at_ + 1 : Nat) : Int)] 3)))
  have da13 : ∀ Z, (w2.alloc Z).cell? ⟨g, 13, none⟩ = some (.slice As m.places.length cap) := fun Z => (HR.out.alloc Z).cells.cell (j := 13) rfl
  have db13 : ∀ Z, (w2.alloc Z).drew.cell? ⟨g, 13, none⟩ = some (.slice As m.places.length cap) := fun Z => (HR.out.alloc Z).cells.cell (j := 13) rfl
  refine wp_region_held_drew (S := fun _ => True) (by kernel_rfl) trivial (fun hS => ?_)
  refine wpAnyH_take (i := 0) (v := ?_) rfl (by kernel_rfl) (by kernel_rfl) (by kernel_rfl) (fun _ _ _ h => h) (Or.inl ⟨by rfl, ?_⟩) hS ?_
  rotate_left
  · (intro wx hSx; (try dsimp only at hSx); go_simp; (try with_reducible rfl))
  simp only [List.getElem_toArray, List.getElem_cons_zero, Act.put, List.setIfInBounds_toArray, List.set_cons_zero, List.set_cons_succ]
  refine wpAnyH_take (i := 1) (v := ?_) rfl (by kernel_rfl) (by kernel_rfl) (by kernel_rfl) (fun _ _ _ h => h) (Or.inl ⟨by rfl, ?_⟩) hS ?_
  rotate_left
  · (intro wx hSx; (try dsimp only at hSx); go_simp; (try with_reducible rfl))
  simp only [List.getElem_toArray, List.getElem_cons_succ, List.getElem_cons_zero, Act.put, List.setIfInBounds_toArray, List.set_cons_zero, List.set_cons_succ]
  refine wpAnyH_take (i := 2) (v := ?_) rfl (by kernel_rfl) (by kernel_rfl) (by kernel_rfl) (fun _ _ _ h => h) (Or.inl ⟨by rfl, ?_⟩) hS ?_
  rotate_left
  · (intro wx hSx; (try dsimp only at hSx); go_simp; (try with_reducible rfl))
  simp only [List.getElem_toArray, List.getElem_cons_succ, List.getElem_cons_zero, Act.put, List.setIfInBounds_toArray, List.set_cons_zero, List.set_cons_succ]
  refine wpAnyH_take (i := 3) (v := ?_) rfl (by kernel_rfl) (by kernel_rfl) (by kernel_rfl) (fun _ _ _ h => h) (Or.inl ⟨by rfl, ?_⟩) hS ?_
  rotate_left
  · (intro wx hSx; (try dsimp only at hSx); go_simp; (try with_reducible rfl))
  simp only [List.getElem_toArray, List.getElem_cons_succ, List.getElem_cons_zero, Act.put, List.setIfInBounds_toArray, List.set_cons_zero, List.set_cons_succ]
  refine wpAnyH_take (i := 5) (v := ?_) rfl (by kernel_rfl) (by kernel_rfl) (by kernel_rfl) (fun _ _ _ h => h) (Or.inl ⟨by rfl, ?_⟩) hS ?_
  rotate_left
  · (intro wx hSx; (try dsimp only at hSx); go_simp; (try with_reducible rfl))
  simp only [List.getElem_toArray, List.getElem_cons_succ, List.getElem_cons_zero, Act.put, List.setIfInBounds_toArray, List.set_cons_zero, List.set_cons_succ]
  refine wpAnyH_take (i := 6) (v := ?_) rfl (by kernel_rfl) (by kernel_rfl) (by kernel_rfl) (fun _ _ _ h => h) (Or.inl ⟨by rfl, ?_⟩) hS ?_
  rotate_left
  · (intro wx hSx; (try dsimp only at hSx); go_simp; (try with_reducible rfl))
  simp only [List.getElem_toArray, List.getElem_cons_succ, List.getElem_cons_zero, Act.put, List.setIfInBounds_toArray, List.set_cons_zero, List.set_cons_succ]
  refine wpAnyH_take (i := 7) (v := ?_) rfl (by kernel_rfl) (by kernel_rfl) (by kernel_rfl) (fun _ _ _ h => h) (Or.inl ⟨by rfl, ?_⟩) hS ?_
  rotate_left
  · (intro wx hSx; (try dsimp only at hSx); go_simp; (try with_reducible rfl))
  simp only [List.getElem_toArray, List.getElem_cons_succ, List.getElem_cons_zero, Act.put, List.setIfInBounds_toArray, List.set_cons_zero, List.set_cons_succ]
  refine wpAnyH_ready (rs := [4, 8]) (by kernel_rfl) (by simp) ?_
  refine AllReadyH.cons rfl (fun K hK => ?_) (AllReadyH.cons rfl (fun K hK => ?_) AllReadyH.nil)
  · go_simp
    refine hK.out _ _ trivial (fun hS => ?_)
    clear hK K
    try simp only [Act.put, List.setIfInBounds_toArray, List.set_cons_zero, List.set_cons_succ]
    refine wpAnyH_ready (rs := [8]) (by kernel_rfl) (by simp) ?_
    refine AllReadyH.cons rfl (fun K hK => ?_) AllReadyH.nil
    go_simp
    refine hK.out _ _ trivial (fun hS => ?_)
    clear hK K
    try simp only [Act.put, List.setIfInBounds_toArray, List.set_cons_zero, List.set_cons_succ]
    refine wpAnyH_ready (rs := [9]) (by kernel_rfl) (by simp) ?_
    refine AllReadyH.cons rfl (fun K hK => ?_) AllReadyH.nil
    go_simp
    refine hK.out _ _ trivial (fun hS => ?_)
    clear hK K
    try simp only [Act.put, List.setIfInBounds_toArray, List.set_cons_zero, List.set_cons_succ]
    refine wpAnyH_ready (rs := [10]) (by kernel_rfl) (by simp) ?_
    refine AllReadyH.cons rfl (fun K hK => ?_) AllReadyH.nil
    refine step_append_lies _ rfl _ _ _ rfl 0 3 i1 _ 1 8 Tryz.underlying59 hq1 hz1 hsz1 hby1 rfl (by decide) (.slice As m.places.length cap) m.places.length _ rfl HROW.out (ad := ⟨w2.heap.size, 0, none⟩) (m := 1) (c := 1) (news := [.int .i64 ((m.at_ + 1 : Nat) : Int)]) (hx := rfl) (hl := rfl) (hnews := HNEWS.out) (h1 := by simp [Value.oneCell']) (hm := by decide) (h63 := by unfold maxLen; omega) (hbytes := by omega) (hbase := Nat.zero_le _) (H := _) (hH := rfl) (h := ?_)
    intro g' cap' W4 ho hgr hat4 hlt4
    have HC4 := Lib.hid (cells_grown hgr HRa.out.places HRa.out.cells (by decide))
    have HX4 := Lib.hid (cells_grown hgr HRa.out.places HXa.out (by decide))
    have e13 := HC4.out.cell (j := 13) rfl
    have ef := HC4.out.fz 13
    have HAT := Lib.hid hat4
    have HPL := Lib.hid (rplaced (r := m.at_ + 1) HRa.out ho hgr)
    clear ho hgr hat4 hlt4
    refine hK.out _ _ trivial (fun hS => ?_)
    clear hK K
    try simp only [Act.put, List.setIfInBounds_toArray, List.set_cons_zero, List.set_cons_succ]
    refine wpAnyH_take (i := 11) (v := ?_) rfl (by kernel_rfl) (by kernel_rfl) (by kernel_rfl) (fun _ _ _ h => h) (Or.inl ⟨by rfl, ?_⟩) hS ?_
    rotate_left
    · (intro wx hSx; (try dsimp only at hSx); go_simp; (try with_reducible rfl))
    simp only [List.getElem_toArray, List.getElem_cons_succ, List.getElem_cons_zero, Act.put, List.setIfInBounds_toArray, List.set_cons_zero, List.set_cons_succ]
    refine wpAnyH_take (i := 12) (v := ?_) rfl (by kernel_rfl) (by kernel_rfl) (by kernel_rfl) (fun _ _ _ h => h) (Or.inl ⟨by rfl, ?_⟩) hS ?_
    rotate_left
    · (intro wx hSx; (try dsimp only at hSx); go_simp; (try with_reducible rfl))
    simp only [List.getElem_toArray, List.getElem_cons_succ, List.getElem_cons_zero, Act.put, List.setIfInBounds_toArray, List.set_cons_zero, List.set_cons_succ]
    refine wpAnyH_ready (rs := [13]) (by kernel_rfl) (by simp) ?_
    refine AllReadyH.cons rfl (fun K hK => ?_) AllReadyH.nil
    go_simp
    refine hK.out _ _ trivial (fun hS => ?_)
    clear hK K
    try simp only [Act.put, List.setIfInBounds_toArray, List.set_cons_zero, List.set_cons_succ]
    refine wpAnyH_done (by kernel_rfl) ?_ _
    clear hS
    have HP1 := Lib.hid HPL.out.1
    have HT5 := Lib.hid (HTa.out.trans HPL.out.2)
    have HX5 := Lib.hid (HX4.out.far (a := ⟨g, 13, none⟩) (Nat.ne_of_gt hlt) (.slice (some ⟨g', 0, none⟩) (m.places.length + 1) cap'))
    generalize W4.setCell ⟨g, 13, none⟩ (.slice (some ⟨g', 0, none⟩) (m.places.length + 1) cap') = w5 at *
    clear e13 ef d13 da13 db13 y0 y1 y4 d2 d2f
    have y4 : w5.cell? ⟨w.heap.size, 4, none⟩ = some (.int .i64 n) := HX5.out.cell (j := 4) rfl
    have d2 : w5.cell? ⟨g, 2, none⟩ = some (.int .i64 ((m.at_ + 1 : Nat) : Int)) := HP1.out.cells.cell (j := 2) rfl
    have d2f := HP1.out.cells.fz 2
    go_wp2
    go_ret
    have hp := rat_stored (v := n) (n := n.toNat) HP1.out (by omega)
    first | exact ⟨_, (.slice (some ⟨g', 0, none⟩) (m.places.length + 1) cap'), rfl, .inl rfl, (by rcases HAT.out with h | h; exact .inl h.symm; exact .inr ⟨_, rfl, by rw [h]; have := HB.out; simp; omega⟩), by rw [← HMX.out]; exact hp.1, HT5.out.trans (turns_g hp.2)⟩ | exact ⟨rfl, _, .inl rfl, (.slice (some ⟨g', 0, none⟩) (m.places.length + 1) cap'), (by rcases HAT.out with h | h; exact .inl h.symm; exact .inr ⟨_, rfl, by rw [h]; have := HB.out; simp; omega⟩), by rw [← HMX.out]; exact hp.1, HT5.out.trans (turns_g hp.2)⟩
  · go_simp
    refine hK.out _ _ trivial (fun hS => ?_)
    clear hK K
    try simp only [Act.put, List.setIfInBounds_toArray, List.set_cons_zero, List.set_cons_succ]
    refine wpAnyH_ready (rs := [4, 9]) (by kernel_rfl) (by simp) ?_
    refine AllReadyH.cons rfl (fun K hK => ?_) (AllReadyH.cons rfl (fun K hK => ?_) AllReadyH.nil)
    · go_simp
      refine hK.out _ _ trivial (fun hS => ?_)
      clear hK K
      try simp only [Act.put, List.setIfInBounds_toArray, List.set_cons_zero, List.set_cons_succ]
      refine wpAnyH_ready (rs := [9]) (by kernel_rfl) (by simp) ?_
      refine AllReadyH.cons rfl (fun K hK => ?_) AllReadyH.nil
      go_simp
      refine hK.out _ _ trivial (fun hS => ?_)
      clear hK K
      try simp only [Act.put, List.setIfInBounds_toArray, List.set_cons_zero, List.set_cons_succ]
      refine wpAnyH_ready (rs := [10]) (by kernel_rfl) (by simp) ?_
      refine AllReadyH.cons rfl (fun K hK => ?_) AllReadyH.nil
      refine step_append_lies _ rfl _ _ _ rfl 0 3 i1 _ 1 8 Tryz.underlying59 hq1 hz1 hsz1 hby1 rfl (by decide) (.slice As m.places.length cap) m.places.length _ rfl HROW.out (ad := ⟨w2.heap.size, 0, none⟩) (m := 1) (c := 1) (news := [.int .i64 ((m.at_ + 1 : Nat) : Int)]) (hx := rfl) (hl := rfl) (hnews := HNEWS.out) (h1 := by simp [Value.oneCell']) (hm := by decide) (h63 := by unfold maxLen; omega) (hbytes := by omega) (hbase := Nat.zero_le _) (H := _) (hH := rfl) (h := ?_)
      intro g' cap' W4 ho hgr hat4 hlt4
      have HC4 := Lib.hid (cells_grown hgr HRa.out.places HRa.out.cells (by decide))
      have HX4 := Lib.hid (cells_grown hgr HRa.out.places HXa.out (by decide))
      have e13 := HC4.out.cell (j := 13) rfl
      have ef := HC4.out.fz 13
      have HAT := Lib.hid hat4
      have HPL := Lib.hid (rplaced (r := m.at_ + 1) HRa.out ho hgr)
      clear ho hgr hat4 hlt4
      refine hK.out _ _ trivial (fun hS => ?_)
      clear hK K
      try simp only [Act.put, List.setIfInBounds_toArray, List.set_cons_zero, List.set_cons_succ]
      refine wpAnyH_take (i := 11) (v := ?_) rfl (by kernel_rfl) (by kernel_rfl) (by kernel_rfl) (fun _ _ _ h => h) (Or.inl ⟨by rfl, ?_⟩) hS ?_
      rotate_left
      · (intro wx hSx; (try dsimp only at hSx); go_simp; (try with_reducible rfl))
      simp only [List.getElem_toArray, List.getElem_cons_succ, List.getElem_cons_zero, Act.put, List.setIfInBounds_toArray, List.set_cons_zero, List.set_cons_succ]
      refine wpAnyH_take (i := 12) (v := ?_) rfl (by kernel_rfl) (by kernel_rfl) (by kernel_rfl) (fun _ _ _ h => h) (Or.inl ⟨by rfl, ?_⟩) hS ?_
      rotate_left
      · (intro wx hSx; (try dsimp only at hSx); go_simp; (try with_reducible rfl))
      simp only [List.getElem_toArray, List.getElem_cons_succ, List.getElem_cons_zero, Act.put, List.setIfInBounds_toArray, List.set_cons_zero, List.set_cons_succ]
      refine wpAnyH_ready (rs := [13]) (by kernel_rfl) (by simp) ?_
      refine AllReadyH.cons rfl (fun K hK => ?_) AllReadyH.nil
      go_simp
      refine hK.out _ _ trivial (fun hS => ?_)
      clear hK K
      try simp only [Act.put, List.setIfInBounds_toArray, List.set_cons_zero, List.set_cons_succ]
      refine wpAnyH_done (by kernel_rfl) ?_ _
      clear hS
      have HP1 := Lib.hid HPL.out.1
      have HT5 := Lib.hid (HTa.out.trans HPL.out.2)
      have HX5 := Lib.hid (HX4.out.far (a := ⟨g, 13, none⟩) (Nat.ne_of_gt hlt) (.slice (some ⟨g', 0, none⟩) (m.places.length + 1) cap'))
      generalize W4.setCell ⟨g, 13, none⟩ (.slice (some ⟨g', 0, none⟩) (m.places.length + 1) cap') = w5 at *
      clear e13 ef d13 da13 db13 y0 y1 y4 d2 d2f
      have y4 : w5.cell? ⟨w.heap.size, 4, none⟩ = some (.int .i64 n) := HX5.out.cell (j := 4) rfl
      have d2 : w5.cell? ⟨g, 2, none⟩ = some (.int .i64 ((m.at_ + 1 : Nat) : Int)) := HP1.out.cells.cell (j := 2) rfl
      have d2f := HP1.out.cells.fz 2
      go_wp2
      go_ret
      have hp := rat_stored (v := n) (n := n.toNat) HP1.out (by omega)
      first | exact ⟨_, (.slice (some ⟨g', 0, none⟩) (m.places.length + 1) cap'), rfl, .inl rfl, (by rcases HAT.out with h | h; exact .inl h.symm; exact .inr ⟨_, rfl, by rw [h]; have := HB.out; simp; omega⟩), by rw [← HMX.out]; exact hp.1, HT5.out.trans (turns_g hp.2)⟩ | exact ⟨rfl, _, .inl rfl, (.slice (some ⟨g', 0, none⟩) (m.places.length + 1) cap'), (by rcases HAT.out with h | h; exact .inl h.symm; exact .inr ⟨_, rfl, by rw [h]; have := HB.out; simp; omega⟩), by rw [← HMX.out]; exact hp.1, HT5.out.trans (turns_g hp.2)⟩
    · go_simp
      refine hK.out _ _ trivial (fun hS => ?_)
      clear hK K
      try simp only [Act.put, List.setIfInBounds_toArray, List.set_cons_zero, List.set_cons_succ]
      refine wpAnyH_ready (rs := [4]) (by kernel_rfl) (by simp) ?_
      refine AllReadyH.cons rfl (fun K hK => ?_) AllReadyH.nil
      go_simp
      refine hK.out _ _ trivial (fun hS => ?_)
      clear hK K
      try simp only [Act.put, List.setIfInBounds_toArray, List.set_cons_zero, List.set_cons_succ]
      refine wpAnyH_ready (rs := [10]) (by kernel_rfl) (by simp) ?_
      refine AllReadyH.cons rfl (fun K hK => ?_) AllReadyH.nil
      refine step_append_lies _ rfl _ _ _ rfl 0 3 i1 _ 1 8 Tryz.underlying59 hq1 hz1 hsz1 hby1 rfl (by decide) (.slice As m.places.length cap) m.places.length _ rfl HROW.out (ad := ⟨w2.heap.size, 0, none⟩) (m := 1) (c := 1) (news := [.int .i64 ((m.at_ + 1 : Nat) : Int)]) (hx := rfl) (hl := rfl) (hnews := HNEWS.out) (h1 := by simp [Value.oneCell']) (hm := by decide) (h63 := by unfold maxLen; omega) (hbytes := by omega) (hbase := Nat.zero_le _) (H := _) (hH := rfl) (h := ?_)
      intro g' cap' W4 ho hgr hat4 hlt4
      have HC4 := Lib.hid (cells_grown hgr HRa.out.places HRa.out.cells (by decide))
      have HX4 := Lib.hid (cells_grown hgr HRa.out.places HXa.out (by decide))
      have e13 := HC4.out.cell (j := 13) rfl
      have ef := HC4.out.fz 13
      have HAT := Lib.hid hat4
      have HPL := Lib.hid (rplaced (r := m.at_ + 1) HRa.out ho hgr)
      clear ho hgr hat4 hlt4
      refine hK.out _ _ trivial (fun hS => ?_)
      clear hK K
      try simp only [Act.put, List.setIfInBounds_toArray, List.set_cons_zero, List.set_cons_succ]
      refine wpAnyH_take (i := 11) (v := ?_) rfl (by kernel_rfl) (by kernel_rfl) (by kernel_rfl) (fun _ _ _ h => h) (Or.inl ⟨by rfl, ?_⟩) hS ?_
      rotate_left
      · (intro wx hSx; (try dsimp only at hSx); go_simp; (try with_reducible rfl))
      simp only [List.getElem_toArray, List.getElem_cons_succ, List.getElem_cons_zero, Act.put, List.setIfInBounds_toArray, List.set_cons_zero, List.set_cons_succ]
      refine wpAnyH_take (i := 12) (v := ?_) rfl (by kernel_rfl) (by kernel_rfl) (by kernel_rfl) (fun _ _ _ h => h) (Or.inl ⟨by rfl, ?_⟩) hS ?_
      rotate_left
      · (intro wx hSx; (try dsimp only at hSx); go_simp; (try with_reducible rfl))
      simp only [List.getElem_toArray, List.getElem_cons_succ, List.getElem_cons_zero, Act.put, List.setIfInBounds_toArray, List.set_cons_zero, List.set_cons_succ]
      refine wpAnyH_ready (rs := [13]) (by kernel_rfl) (by simp) ?_
      refine AllReadyH.cons rfl (fun K hK => ?_) AllReadyH.nil
      go_simp
      refine hK.out _ _ trivial (fun hS => ?_)
      clear hK K
      try simp only [Act.put, List.setIfInBounds_toArray, List.set_cons_zero, List.set_cons_succ]
      refine wpAnyH_done (by kernel_rfl) ?_ _
      clear hS
      have HP1 := Lib.hid HPL.out.1
      have HT5 := Lib.hid (HTa.out.trans HPL.out.2)
      have HX5 := Lib.hid (HX4.out.far (a := ⟨g, 13, none⟩) (Nat.ne_of_gt hlt) (.slice (some ⟨g', 0, none⟩) (m.places.length + 1) cap'))
      generalize W4.setCell ⟨g, 13, none⟩ (.slice (some ⟨g', 0, none⟩) (m.places.length + 1) cap') = w5 at *
      clear e13 ef d13 da13 db13 y0 y1 y4 d2 d2f
      have y4 : w5.cell? ⟨w.heap.size, 4, none⟩ = some (.int .i64 n) := HX5.out.cell (j := 4) rfl
      have d2 : w5.cell? ⟨g, 2, none⟩ = some (.int .i64 ((m.at_ + 1 : Nat) : Int)) := HP1.out.cells.cell (j := 2) rfl
      have d2f := HP1.out.cells.fz 2
      go_wp2
      go_ret
      have hp := rat_stored (v := n) (n := n.toNat) HP1.out (by omega)
      first | exact ⟨_, (.slice (some ⟨g', 0, none⟩) (m.places.length + 1) cap'), rfl, .inl rfl, (by rcases HAT.out with h | h; exact .inl h.symm; exact .inr ⟨_, rfl, by rw [h]; have := HB.out; simp; omega⟩), by rw [← HMX.out]; exact hp.1, HT5.out.trans (turns_g hp.2)⟩ | exact ⟨rfl, _, .inl rfl, (.slice (some ⟨g', 0, none⟩) (m.places.length + 1) cap'), (by rcases HAT.out with h | h; exact .inl h.symm; exact .inr ⟨_, rfl, by rw [h]; have := HB.out; simp; omega⟩), by rw [← HMX.out]; exact hp.1, HT5.out.trans (turns_g hp.2)⟩

set_option maxRecDepth 100000 in
set_option maxHeartbeats 4000000 in
theorem rflow_push {w : World} {g : Nat} {cs nv pv : Value} {m : Mach} (hR : Rw w g cs nv pv m) (hF : m.Fit) (hat : m.at_ < m.code.length) (a b c : Nat) (ha : a < 8) (n : Int) (k : Nat) (hfull : m.nums.length < 8) :
    Calls Tryz.prog 33 #[.pointer (some ⟨g, 0, none⟩), .agg #[.int .i64 19, .int .i64 (a : Nat), .int .i64 (b : Nat), .int .i64 (c : Nat), .int .i64 n, .int .u64 (k : Nat)]] w fun e w' => ∃ nv' pv', e = .returned (.int .i64 0) ∧ Anew w nv nv' ∧ Anew w pv pv' ∧ Rw w' g cs nv' pv' { m with nums := m.nums ++ [m.regs.getD a 0], at_ := m.at_ + 1 } ∧ Turns (mOwn g nv pv) w w' := by
  have HR0 := Lib.hid hR
  have hlt := hR.lt
  have h64 : m.at_ < 64 := Nat.lt_of_lt_of_le hat hF.len.2
  have c2 : w.cell? ⟨g, 2, none⟩ = some (.int .i64 (m.at_ : Nat)) := hR.cells.cell (j := 2) rfl
  have c2f := hR.cells.fz 2
  have hwr : wrap64 ((m.at_ : Int) + 1) = (m.at_ : Int) + 1 := by unfold wrap64; omega
  have HF := Lib.hid hF
  obtain ⟨Mx, hMx⟩ : ∃ q : Mach, { m with nums := m.nums ++ [m.regs.getD a 0], at_ := m.at_ + 1 } = q := ⟨_, rfl⟩
  rw [hMx]
  have HMX := Lib.hid hMx
  clear hR hF hat hMx
  go_enter Tryz.func33, Tryz.ntmps33
  go_upto_region 2 with fail
  obtain ⟨hR2, ht2⟩ := rat_stored (v := (m.at_ : Int) + 1) (n := m.at_ + 1) HR0.out (by omega)
  have HR := Lib.hid (hR2.alloc (.cells #[.int .i64 19, .int .i64 (a : Nat), .int .i64 (b : Nat), .int .i64 (c : Nat), .int .i64 n, .int .u64 (k : Nat)] 77))
  have HX := Lib.hid (Cells.newAt (w.setCell ⟨g, 2, none⟩ (.int .i64 ((m.at_ : Int) + 1))) 77 #[.int .i64 19, .int .i64 (a : Nat), .int .i64 (b : Nat), .int .i64 (c : Nat), .int .i64 n, .int .u64 (k : Nat)] w.heap.size (by simp [World.setCell]))
  have HT := Lib.hid (show Turns (mOwn g nv pv) w _ from (turns_g ht2).alloc (.cells #[.int .i64 19, .int .i64 (a : Nat), .int .i64 (b : Nat), .int .i64 (c : Nat), .int .i64 n, .int .u64 (k : Nat)] 77))
  have HB : Hid (w.heap.size ≤ ((w.setCell ⟨g, 2, none⟩ (.int .i64 ((m.at_ : Int) + 1))).alloc (.cells #[.int .i64 19, .int .i64 (a : Nat), .int .i64 (b : Nat), .int .i64 (c : Nat), .int .i64 n, .int .u64 (k : Nat)] 77)).heap.size) := Lib.hid HT.out.size
  clear hR2 ht2 c2 c2f HR0
  generalize (w.setCell ⟨g, 2, none⟩ (.int .i64 ((m.at_ : Int) + 1))).alloc (.cells #[.int .i64 19, .int .i64 (a : Nat), .int .i64 (b : Nat), .int .i64 (c : Nat), .int .i64 n, .int .u64 (k : Nat)] 77) = w2 at *
  have y0 : w2.cell? ⟨w.heap.size, 0, none⟩ = some (.int .i64 19) := HX.out.cell (j := 0) rfl
  have y1 : w2.cell? ⟨w.heap.size, 1, none⟩ = some (.int .i64 (a : Nat)) := HX.out.cell (j := 1) rfl
  have y4 : w2.cell? ⟨w.heap.size, 4, none⟩ = some (.int .i64 n) := HX.out.cell (j := 4) rfl
  have d2 : w2.cell? ⟨g, 2, none⟩ = some (.int .i64 ((m.at_ + 1 : Nat) : Int)) := HR.out.cells.cell (j := 2) rfl
  have d2f := HR.out.cells.fz 2
  obtain ⟨As, cap, rfl⟩ := own_slice HR.out.nums
  have d13 : w2.cell? ⟨g, 12, none⟩ = some (.slice As m.nums.length cap) := HR.out.cells.cell (j := 12) rfl
  have r0 : w2.cell? ⟨g, 4 + a, none⟩ = some (.int .u64 (m.regs.getD a 0 : Nat)) := HR.out.cells.cell (cells_reg _ cs _ pv a ha)
  have i0 : (0 : Int) ≤ a := by omega
  have ii1 : (a : Int) < 8 := by omega
  obtain ⟨rv, hrv⟩ : ∃ q, m.regs.getD a 0 = q := ⟨_, rfl⟩
  rw [hrv] at r0
  have HRV := Lib.hid hrv
  clear hrv
  obtain ⟨i1, hq1, hz1, hsz1, hby1⟩ := info_u64
  have t8 : ¬ ((m.nums.length : Int) = 8) := by omega
  have t8b : ((m.nums.length : Int) == 8) = false := by rw [beq_eq_false_iff_ne]; exact t8
  have t9 : m.nums.length < 1073741824 := by omega
  clear hfull
  go_upto_region 26 with fail
  have HRa := Lib.hid (show Rw (w2.alloc (.cells #[.int .u64 (rv : Nat)] 25)).drew g cs (.slice As m.nums.length cap) pv _ from (HR.out.alloc _).drew)
  have HXa := Lib.hid (show Cells (w2.alloc (.cells #[.int .u64 (rv : Nat)] 25)).drew w.heap.size 77 _ from (HX.out.alloc _).drew)
  have HTa := Lib.hid (show Turns _ w (w2.alloc (.cells #[.int .u64 (rv : Nat)] 25)).drew from (HT.out.alloc _).drew)
  have HROW := Lib.hid HRa.out.nums
  have HNEWS := Lib.hid (show ∀ (i : Nat) (u : Value), [.int .u64 (rv : Nat)][i]? = some u → (w2.alloc (.cells #[.int .u64 (rv : Nat)] 25)).drew.cell? ((⟨w2.heap.size, 0, none⟩ : Addr).add i) = some u from World.news_of_block (heap_alloc_new w2 (.cells #[.int .u64 (rv : Nat)] 25)))
  have da13 : ∀ Z, (w2.alloc Z).cell? ⟨g, 12, none⟩ = some (.slice As m.nums.length cap) := fun Z => (HR.out.alloc Z).cells.cell (j := 12) rfl
  have db13 : ∀ Z, (w2.alloc Z).drew.cell? ⟨g, 12, none⟩ = some (.slice As m.nums.length cap) := fun Z => (HR.out.alloc Z).cells.cell (j := 12) rfl
  refine wp_region_held_drew (S := fun _ => True) (by kernel_rfl) trivial (fun hS => ?_)
  refine wpAnyH_take (i := 0) (v := ?_) rfl (by kernel_rfl) (by kernel_rfl) (by kernel_rfl) (fun _ _ _ h => h) (Or.inl ⟨by rfl, ?_⟩) hS ?_
  rotate_left
  · (intro wx hSx; (try dsimp only at hSx); go_simp; (try with_reducible rfl))
  simp only [List.getElem_toArray, List.getElem_cons_zero, Act.put, List.setIfInBounds_toArray, List.set_cons_zero, List.set_cons_succ]
  refine wpAnyH_take (i := 1) (v := ?_) rfl (by kernel_rfl) (by kernel_rfl) (by kernel_rfl) (fun _ _ _ h => h) (Or.inl ⟨by rfl, ?_⟩) hS ?_
  rotate_left
  · (intro wx hSx; (try dsimp only at hSx); go_simp; (try with_reducible rfl))
  simp only [List.getElem_toArray, List.getElem_cons_succ, List.getElem_cons_zero, Act.put, List.setIfInBounds_toArray, List.set_cons_zero, List.set_cons_succ]
  refine wpAnyH_take (i := 2) (v := ?_) rfl (by kernel_rfl) (by kernel_rfl) (by kernel_rfl) (fun _ _ _ h => h) (Or.inl ⟨by rfl, ?_⟩) hS ?_
  rotate_left
  · (intro wx hSx; (try dsimp only at hSx); go_simp; (try with_reducible rfl))
  simp only [List.getElem_toArray, List.getElem_cons_succ, List.getElem_cons_zero, Act.put, List.setIfInBounds_toArray, List.set_cons_zero, List.set_cons_succ]
  refine wpAnyH_take (i := 3) (v := ?_) rfl (by kernel_rfl) (by kernel_rfl) (by kernel_rfl) (fun _ _ _ h => h) (Or.inl ⟨by rfl, ?_⟩) hS ?_
  rotate_left
  · (intro wx hSx; (try dsimp only at hSx); go_simp; (try with_reducible rfl))
  simp only [List.getElem_toArray, List.getElem_cons_succ, List.getElem_cons_zero, Act.put, List.setIfInBounds_toArray, List.set_cons_zero, List.set_cons_succ]
  refine wpAnyH_take (i := 5) (v := ?_) rfl (by kernel_rfl) (by kernel_rfl) (by kernel_rfl) (fun _ _ _ h => h) (Or.inl ⟨by rfl, ?_⟩) hS ?_
  rotate_left
  · (intro wx hSx; (try dsimp only at hSx); go_simp; (try with_reducible rfl))
  simp only [List.getElem_toArray, List.getElem_cons_succ, List.getElem_cons_zero, Act.put, List.setIfInBounds_toArray, List.set_cons_zero, List.set_cons_succ]
  refine wpAnyH_take (i := 6) (v := ?_) rfl (by kernel_rfl) (by kernel_rfl) (by kernel_rfl) (fun _ _ _ h => h) (Or.inl ⟨by rfl, ?_⟩) hS ?_
  rotate_left
  · (intro wx hSx; (try dsimp only at hSx); go_simp; (try with_reducible rfl))
  simp only [List.getElem_toArray, List.getElem_cons_succ, List.getElem_cons_zero, Act.put, List.setIfInBounds_toArray, List.set_cons_zero, List.set_cons_succ]
  refine wpAnyH_take (i := 8) (v := ?_) rfl (by kernel_rfl) (by kernel_rfl) (by kernel_rfl) (fun _ _ _ h => h) (Or.inl ⟨by rfl, ?_⟩) hS ?_
  rotate_left
  · (intro wx hSx; (try dsimp only at hSx); go_simp; (try with_reducible rfl))
  simp only [List.getElem_toArray, List.getElem_cons_succ, List.getElem_cons_zero, Act.put, List.setIfInBounds_toArray, List.set_cons_zero, List.set_cons_succ]
  refine wpAnyH_take (i := 9) (v := ?_) rfl (by kernel_rfl) (by kernel_rfl) (by kernel_rfl) (fun _ _ _ h => h) (Or.inl ⟨by rfl, ?_⟩) hS ?_
  rotate_left
  · (intro wx hSx; (try dsimp only at hSx); go_simp; (try with_reducible rfl))
  simp only [List.getElem_toArray, List.getElem_cons_succ, List.getElem_cons_zero, Act.put, List.setIfInBounds_toArray, List.set_cons_zero, List.set_cons_succ]
  refine wpAnyH_ready (rs := [4, 7]) (by kernel_rfl) (by simp) ?_
  refine AllReadyH.cons rfl (fun K hK => ?_) (AllReadyH.cons rfl (fun K hK => ?_) AllReadyH.nil)
  · go_simp
    refine hK.out _ _ trivial (fun hS => ?_)
    clear hK K
    try simp only [Act.put, List.setIfInBounds_toArray, List.set_cons_zero, List.set_cons_succ]
    refine wpAnyH_ready (rs := [7]) (by kernel_rfl) (by simp) ?_
    refine AllReadyH.cons rfl (fun K hK => ?_) AllReadyH.nil
    go_simp
    refine hK.out _ _ trivial (fun hS => ?_)
    clear hK K
    try simp only [Act.put, List.setIfInBounds_toArray, List.set_cons_zero, List.set_cons_succ]
    refine wpAnyH_ready (rs := [10]) (by kernel_rfl) (by simp) ?_
    refine AllReadyH.cons rfl (fun K hK => ?_) AllReadyH.nil
    go_simp
    refine hK.out _ _ trivial (fun hS => ?_)
    clear hK K
    try simp only [Act.put, List.setIfInBounds_toArray, List.set_cons_zero, List.set_cons_succ]
    refine wpAnyH_ready (rs := [11]) (by kernel_rfl) (by simp) ?_
    refine AllReadyH.cons rfl (fun K hK => ?_) AllReadyH.nil
    go_simp
    refine hK.out _ _ trivial (fun hS => ?_)
    clear hK K
    try simp only [Act.put, List.setIfInBounds_toArray, List.set_cons_zero, List.set_cons_succ]
    refine wpAnyH_ready (rs := [12]) (by kernel_rfl) (by simp) ?_
    refine AllReadyH.cons rfl (fun K hK => ?_) AllReadyH.nil
    go_simp
    refine hK.out _ _ trivial (fun hS => ?_)
    clear hK K
    try simp only [Act.put, List.setIfInBounds_toArray, List.set_cons_zero, List.set_cons_succ]
    refine wpAnyH_ready (rs := [13]) (by kernel_rfl) (by simp) ?_
    refine AllReadyH.cons rfl (fun K hK => ?_) AllReadyH.nil
    refine step_append_lies _ rfl _ _ _ rfl 0 25 i1 _ 1 8 Tryz.underlying58 hq1 hz1 hsz1 hby1 rfl (by decide) (.slice As m.nums.length cap) m.nums.length _ rfl HROW.out (ad := ⟨w2.heap.size, 0, none⟩) (m := 1) (c := 1) (news := [.int .u64 (rv : Nat)]) (hx := rfl) (hl := rfl) (hnews := HNEWS.out) (h1 := by simp [Value.oneCell']) (hm := by decide) (h63 := by unfold maxLen; omega) (hbytes := by omega) (hbase := Nat.zero_le _) (H := _) (hH := rfl) (h := ?_)
    intro g' cap' W4 ho hgr hat4 hlt4
    have HC4 := Lib.hid (cells_grown hgr HRa.out.nums HRa.out.cells (by decide))
    have HX4 := Lib.hid (cells_grown hgr HRa.out.nums HXa.out (by decide))
    have e13 := HC4.out.cell (j := 12) rfl
    have ef := HC4.out.fz 12
    have HAT := Lib.hid hat4
    have HPL := Lib.hid (rpushed (r := rv) HRa.out ho hgr)
    clear ho hgr hat4 hlt4
    refine hK.out _ _ trivial (fun hS => ?_)
    clear hK K
    try simp only [Act.put, List.setIfInBounds_toArray, List.set_cons_zero, List.set_cons_succ]
    refine wpAnyH_take (i := 14) (v := ?_) rfl (by kernel_rfl) (by kernel_rfl) (by kernel_rfl) (fun _ _ _ h => h) (Or.inl ⟨by rfl, ?_⟩) hS ?_
    rotate_left
    · (intro wx hSx; (try dsimp only at hSx); go_simp; (try with_reducible rfl))
    simp only [List.getElem_toArray, List.getElem_cons_succ, List.getElem_cons_zero, Act.put, List.setIfInBounds_toArray, List.set_cons_zero, List.set_cons_succ]
    refine wpAnyH_take (i := 15) (v := ?_) rfl (by kernel_rfl) (by kernel_rfl) (by kernel_rfl) (fun _ _ _ h => h) (Or.inl ⟨by rfl, ?_⟩) hS ?_
    rotate_left
    · (intro wx hSx; (try dsimp only at hSx); go_simp; (try with_reducible rfl))
    simp only [List.getElem_toArray, List.getElem_cons_succ, List.getElem_cons_zero, Act.put, List.setIfInBounds_toArray, List.set_cons_zero, List.set_cons_succ]
    refine wpAnyH_ready (rs := [16]) (by kernel_rfl) (by simp) ?_
    refine AllReadyH.cons rfl (fun K hK => ?_) AllReadyH.nil
    go_simp
    refine hK.out _ _ trivial (fun hS => ?_)
    clear hK K
    try simp only [Act.put, List.setIfInBounds_toArray, List.set_cons_zero, List.set_cons_succ]
    refine wpAnyH_done (by kernel_rfl) ?_ _
    clear hS
    go_wp2
    go_ret
    first | exact ⟨(.slice (some ⟨g', 0, none⟩) (m.nums.length + 1) cap'), _, rfl, (by rcases HAT.out with h | h; exact .inl h.symm; exact .inr ⟨_, rfl, by rw [h]; have := HB.out; simp; omega⟩), .inl rfl, by rw [← HMX.out, HRV.out]; exact HPL.out.1, HTa.out.trans HPL.out.2⟩ | exact ⟨rfl, (.slice (some ⟨g', 0, none⟩) (m.nums.length + 1) cap'), (by rcases HAT.out with h | h; exact .inl h.symm; exact .inr ⟨_, rfl, by rw [h]; have := HB.out; simp; omega⟩), _, .inl rfl, by rw [← HMX.out, HRV.out]; exact HPL.out.1, HTa.out.trans HPL.out.2⟩
  · go_simp
    refine hK.out _ _ trivial (fun hS => ?_)
    clear hK K
    try simp only [Act.put, List.setIfInBounds_toArray, List.set_cons_zero, List.set_cons_succ]
    refine wpAnyH_ready (rs := [4, 10]) (by kernel_rfl) (by simp) ?_
    refine AllReadyH.cons rfl (fun K hK => ?_) (AllReadyH.cons rfl (fun K hK => ?_) AllReadyH.nil)
    · go_simp
      refine hK.out _ _ trivial (fun hS => ?_)
      clear hK K
      try simp only [Act.put, List.setIfInBounds_toArray, List.set_cons_zero, List.set_cons_succ]
      refine wpAnyH_ready (rs := [10]) (by kernel_rfl) (by simp) ?_
      refine AllReadyH.cons rfl (fun K hK => ?_) AllReadyH.nil
      go_simp
      refine hK.out _ _ trivial (fun hS => ?_)
      clear hK K
      try simp only [Act.put, List.setIfInBounds_toArray, List.set_cons_zero, List.set_cons_succ]
      refine wpAnyH_ready (rs := [11]) (by kernel_rfl) (by simp) ?_
      refine AllReadyH.cons rfl (fun K hK => ?_) AllReadyH.nil
      go_simp
      refine hK.out _ _ trivial (fun hS => ?_)
      clear hK K
      try simp only [Act.put, List.setIfInBounds_toArray, List.set_cons_zero, List.set_cons_succ]
      refine wpAnyH_ready (rs := [12]) (by kernel_rfl) (by simp) ?_
      refine AllReadyH.cons rfl (fun K hK => ?_) AllReadyH.nil
      go_simp
      refine hK.out _ _ trivial (fun hS => ?_)
      clear hK K
      try simp only [Act.put, List.setIfInBounds_toArray, List.set_cons_zero, List.set_cons_succ]
      refine wpAnyH_ready (rs := [13]) (by kernel_rfl) (by simp) ?_
      refine AllReadyH.cons rfl (fun K hK => ?_) AllReadyH.nil
      refine step_append_lies _ rfl _ _ _ rfl 0 25 i1 _ 1 8 Tryz.underlying58 hq1 hz1 hsz1 hby1 rfl (by decide) (.slice As m.nums.length cap) m.nums.length _ rfl HROW.out (ad := ⟨w2.heap.size, 0, none⟩) (m := 1) (c := 1) (news := [.int .u64 (rv : Nat)]) (hx := rfl) (hl := rfl) (hnews := HNEWS.out) (h1 := by simp [Value.oneCell']) (hm := by decide) (h63 := by unfold maxLen; omega) (hbytes := by omega) (hbase := Nat.zero_le _) (H := _) (hH := rfl) (h := ?_)
      intro g' cap' W4 ho hgr hat4 hlt4
      have HC4 := Lib.hid (cells_grown hgr HRa.out.nums HRa.out.cells (by decide))
      have HX4 := Lib.hid (cells_grown hgr HRa.out.nums HXa.out (by decide))
      have e13 := HC4.out.cell (j := 12) rfl
      have ef := HC4.out.fz 12
      have HAT := Lib.hid hat4
      have HPL := Lib.hid (rpushed (r := rv) HRa.out ho hgr)
      clear ho hgr hat4 hlt4
      refine hK.out _ _ trivial (fun hS => ?_)
      clear hK K
      try simp only [Act.put, List.setIfInBounds_toArray, List.set_cons_zero, List.set_cons_succ]
      refine wpAnyH_take (i := 14) (v := ?_) rfl (by kernel_rfl) (by kernel_rfl) (by kernel_rfl) (fun _ _ _ h => h) (Or.inl ⟨by rfl, ?_⟩) hS ?_
      rotate_left
      · (intro wx hSx; (try dsimp only at hSx); go_simp; (try with_reducible rfl))
      simp only [List.getElem_toArray, List.getElem_cons_succ, List.getElem_cons_zero, Act.put, List.setIfInBounds_toArray, List.set_cons_zero, List.set_cons_succ]
      refine wpAnyH_take (i := 15) (v := ?_) rfl (by kernel_rfl) (by kernel_rfl) (by kernel_rfl) (fun _ _ _ h => h) (Or.inl ⟨by rfl, ?_⟩) hS ?_
      rotate_left
      · (intro wx hSx; (try dsimp only at hSx); go_simp; (try with_reducible rfl))
      simp only [List.getElem_toArray, List.getElem_cons_succ, List.getElem_cons_zero, Act.put, List.setIfInBounds_toArray, List.set_cons_zero, List.set_cons_succ]
      refine wpAnyH_ready (rs := [16]) (by kernel_rfl) (by simp) ?_
      refine AllReadyH.cons rfl (fun K hK => ?_) AllReadyH.nil
      go_simp
      refine hK.out _ _ trivial (fun hS => ?_)
      clear hK K
      try simp only [Act.put, List.setIfInBounds_toArray, List.set_cons_zero, List.set_cons_succ]
      refine wpAnyH_done (by kernel_rfl) ?_ _
      clear hS
      go_wp2
      go_ret
      first | exact ⟨(.slice (some ⟨g', 0, none⟩) (m.nums.length + 1) cap'), _, rfl, (by rcases HAT.out with h | h; exact .inl h.symm; exact .inr ⟨_, rfl, by rw [h]; have := HB.out; simp; omega⟩), .inl rfl, by rw [← HMX.out, HRV.out]; exact HPL.out.1, HTa.out.trans HPL.out.2⟩ | exact ⟨rfl, (.slice (some ⟨g', 0, none⟩) (m.nums.length + 1) cap'), (by rcases HAT.out with h | h; exact .inl h.symm; exact .inr ⟨_, rfl, by rw [h]; have := HB.out; simp; omega⟩), _, .inl rfl, by rw [← HMX.out, HRV.out]; exact HPL.out.1, HTa.out.trans HPL.out.2⟩
    · go_simp
      refine hK.out _ _ trivial (fun hS => ?_)
      clear hK K
      try simp only [Act.put, List.setIfInBounds_toArray, List.set_cons_zero, List.set_cons_succ]
      refine wpAnyH_ready (rs := [4, 11]) (by kernel_rfl) (by simp) ?_
      refine AllReadyH.cons rfl (fun K hK => ?_) (AllReadyH.cons rfl (fun K hK => ?_) AllReadyH.nil)
      · go_simp
        refine hK.out _ _ trivial (fun hS => ?_)
        clear hK K
        try simp only [Act.put, List.setIfInBounds_toArray, List.set_cons_zero, List.set_cons_succ]
        refine wpAnyH_ready (rs := [11]) (by kernel_rfl) (by simp) ?_
        refine AllReadyH.cons rfl (fun K hK => ?_) AllReadyH.nil
        go_simp
        refine hK.out _ _ trivial (fun hS => ?_)
        clear hK K
        try simp only [Act.put, List.setIfInBounds_toArray, List.set_cons_zero, List.set_cons_succ]
        refine wpAnyH_ready (rs := [12]) (by kernel_rfl) (by simp) ?_
        refine AllReadyH.cons rfl (fun K hK => ?_) AllReadyH.nil
        go_simp
        refine hK.out _ _ trivial (fun hS => ?_)
        clear hK K
        try simp only [Act.put, List.setIfInBounds_toArray, List.set_cons_zero, List.set_cons_succ]
        refine wpAnyH_ready (rs := [13]) (by kernel_rfl) (by simp) ?_
        refine AllReadyH.cons rfl (fun K hK => ?_) AllReadyH.nil
        refine step_append_lies _ rfl _ _ _ rfl 0 25 i1 _ 1 8 Tryz.underlying58 hq1 hz1 hsz1 hby1 rfl (by decide) (.slice As m.nums.length cap) m.nums.length _ rfl HROW.out (ad := ⟨w2.heap.size, 0, none⟩) (m := 1) (c := 1) (news := [.int .u64 (rv : Nat)]) (hx := rfl) (hl := rfl) (hnews := HNEWS.out) (h1 := by simp [Value.oneCell']) (hm := by decide) (h63 := by unfold maxLen; omega) (hbytes := by omega) (hbase := Nat.zero_le _) (H := _) (hH := rfl) (h := ?_)
        intro g' cap' W4 ho hgr hat4 hlt4
        have HC4 := Lib.hid (cells_grown hgr HRa.out.nums HRa.out.cells (by decide))
        have HX4 := Lib.hid (cells_grown hgr HRa.out.nums HXa.out (by decide))
        have e13 := HC4.out.cell (j := 12) rfl
        have ef := HC4.out.fz 12
        have HAT := Lib.hid hat4
        have HPL := Lib.hid (rpushed (r := rv) HRa.out ho hgr)
        clear ho hgr hat4 hlt4
        refine hK.out _ _ trivial (fun hS => ?_)
        clear hK K
        try simp only [Act.put, List.setIfInBounds_toArray, List.set_cons_zero, List.set_cons_succ]
        refine wpAnyH_take (i := 14) (v := ?_) rfl (by kernel_rfl) (by kernel_rfl) (by kernel_rfl) (fun _ _ _ h => h) (Or.inl ⟨by rfl, ?_⟩) hS ?_
        rotate_left
        · (intro wx hSx; (try dsimp only at hSx); go_simp; (try with_reducible rfl))
        simp only [List.getElem_toArray, List.getElem_cons_succ, List.getElem_cons_zero, Act.put, List.setIfInBounds_toArray, List.set_cons_zero, List.set_cons_succ]
        refine wpAnyH_take (i := 15) (v := ?_) rfl (by kernel_rfl) (by kernel_rfl) (by kernel_rfl) (fun _ _ _ h => h) (Or.inl ⟨by rfl, ?_⟩) hS ?_
        rotate_left
        · (intro wx hSx; (try dsimp only at hSx); go_simp; (try with_reducible rfl))
        simp only [List.getElem_toArray, List.getElem_cons_succ, List.getElem_cons_zero, Act.put, List.setIfInBounds_toArray, List.set_cons_zero, List.set_cons_succ]
        refine wpAnyH_ready (rs := [16]) (by kernel_rfl) (by simp) ?_
        refine AllReadyH.cons rfl (fun K hK => ?_) AllReadyH.nil
        go_simp
        refine hK.out _ _ trivial (fun hS => ?_)
        clear hK K
        try simp only [Act.put, List.setIfInBounds_toArray, List.set_cons_zero, List.set_cons_succ]
        refine wpAnyH_done (by kernel_rfl) ?_ _
        clear hS
        go_wp2
        go_ret
        first | exact ⟨(.slice (some ⟨g', 0, none⟩) (m.nums.length + 1) cap'), _, rfl, (by rcases HAT.out with h | h; exact .inl h.symm; exact .inr ⟨_, rfl, by rw [h]; have := HB.out; simp; omega⟩), .inl rfl, by rw [← HMX.out, HRV.out]; exact HPL.out.1, HTa.out.trans HPL.out.2⟩ | exact ⟨rfl, (.slice (some ⟨g', 0, none⟩) (m.nums.length + 1) cap'), (by rcases HAT.out with h | h; exact .inl h.symm; exact .inr ⟨_, rfl, by rw [h]; have := HB.out; simp; omega⟩), _, .inl rfl, by rw [← HMX.out, HRV.out]; exact HPL.out.1, HTa.out.trans HPL.out.2⟩
      · go_simp
        refine hK.out _ _ trivial (fun hS => ?_)
        clear hK K
        try simp only [Act.put, List.setIfInBounds_toArray, List.set_cons_zero, List.set_cons_succ]
        refine wpAnyH_ready (rs := [4, 12]) (by kernel_rfl) (by simp) ?_
        refine AllReadyH.cons rfl (fun K hK => ?_) (AllReadyH.cons rfl (fun K hK => ?_) AllReadyH.nil)
        · go_simp
          refine hK.out _ _ trivial (fun hS => ?_)
          clear hK K
          try simp only [Act.put, List.setIfInBounds_toArray, List.set_cons_zero, List.set_cons_succ]
          refine wpAnyH_ready (rs := [12]) (by kernel_rfl) (by simp) ?_
          refine AllReadyH.cons rfl (fun K hK => ?_) AllReadyH.nil
          go_simp
          refine hK.out _ _ trivial (fun hS => ?_)
          clear hK K
          try simp only [Act.put, List.setIfInBounds_toArray, List.set_cons_zero, List.set_cons_succ]
          refine wpAnyH_ready (rs := [13]) (by kernel_rfl) (by simp) ?_
          refine AllReadyH.cons rfl (fun K hK => ?_) AllReadyH.nil
          refine step_append_lies _ rfl _ _ _ rfl 0 25 i1 _ 1 8 Tryz.underlying58 hq1 hz1 hsz1 hby1 rfl (by decide) (.slice As m.nums.length cap) m.nums.length _ rfl HROW.out (ad := ⟨w2.heap.size, 0, none⟩) (m := 1) (c := 1) (news := [.int .u64 (rv : Nat)]) (hx := rfl) (hl := rfl) (hnews := HNEWS.out) (h1 := by simp [Value.oneCell']) (hm := by decide) (h63 := by unfold maxLen; omega) (hbytes := by omega) (hbase := Nat.zero_le _) (H := _) (hH := rfl) (h := ?_)
          intro g' cap' W4 ho hgr hat4 hlt4
          have HC4 := Lib.hid (cells_grown hgr HRa.out.nums HRa.out.cells (by decide))
          have HX4 := Lib.hid (cells_grown hgr HRa.out.nums HXa.out (by decide))
          have e13 := HC4.out.cell (j := 12) rfl
          have ef := HC4.out.fz 12
          have HAT := Lib.hid hat4
          have HPL := Lib.hid (rpushed (r := rv) HRa.out ho hgr)
          clear ho hgr hat4 hlt4
          refine hK.out _ _ trivial (fun hS => ?_)
          clear hK K
          try simp only [Act.put, List.setIfInBounds_toArray, List.set_cons_zero, List.set_cons_succ]
          refine wpAnyH_take (i := 14) (v := ?_) rfl (by kernel_rfl) (by kernel_rfl) (by kernel_rfl) (fun _ _ _ h => h) (Or.inl ⟨by rfl, ?_⟩) hS ?_
          rotate_left
          · (intro wx hSx; (try dsimp only at hSx); go_simp; (try with_reducible rfl))
          simp only [List.getElem_toArray, List.getElem_cons_succ, List.getElem_cons_zero, Act.put, List.setIfInBounds_toArray, List.set_cons_zero, List.set_cons_succ]
          refine wpAnyH_take (i := 15) (v := ?_) rfl (by kernel_rfl) (by kernel_rfl) (by kernel_rfl) (fun _ _ _ h => h) (Or.inl ⟨by rfl, ?_⟩) hS ?_
          rotate_left
          · (intro wx hSx; (try dsimp only at hSx); go_simp; (try with_reducible rfl))
          simp only [List.getElem_toArray, List.getElem_cons_succ, List.getElem_cons_zero, Act.put, List.setIfInBounds_toArray, List.set_cons_zero, List.set_cons_succ]
          refine wpAnyH_ready (rs := [16]) (by kernel_rfl) (by simp) ?_
          refine AllReadyH.cons rfl (fun K hK => ?_) AllReadyH.nil
          go_simp
          refine hK.out _ _ trivial (fun hS => ?_)
          clear hK K
          try simp only [Act.put, List.setIfInBounds_toArray, List.set_cons_zero, List.set_cons_succ]
          refine wpAnyH_done (by kernel_rfl) ?_ _
          clear hS
          go_wp2
          go_ret
          first | exact ⟨(.slice (some ⟨g', 0, none⟩) (m.nums.length + 1) cap'), _, rfl, (by rcases HAT.out with h | h; exact .inl h.symm; exact .inr ⟨_, rfl, by rw [h]; have := HB.out; simp; omega⟩), .inl rfl, by rw [← HMX.out, HRV.out]; exact HPL.out.1, HTa.out.trans HPL.out.2⟩ | exact ⟨rfl, (.slice (some ⟨g', 0, none⟩) (m.nums.length + 1) cap'), (by rcases HAT.out with h | h; exact .inl h.symm; exact .inr ⟨_, rfl, by rw [h]; have := HB.out; simp; omega⟩), _, .inl rfl, by rw [← HMX.out, HRV.out]; exact HPL.out.1, HTa.out.trans HPL.out.2⟩
        · go_simp
          refine hK.out _ _ trivial (fun hS => ?_)
          clear hK K
          try simp only [Act.put, List.setIfInBounds_toArray, List.set_cons_zero, List.set_cons_succ]
          refine wpAnyH_ready (rs := [4]) (by kernel_rfl) (by simp) ?_
          refine AllReadyH.cons rfl (fun K hK => ?_) AllReadyH.nil
          go_simp
          refine hK.out _ _ trivial (fun hS => ?_)
          clear hK K
          try simp only [Act.put, List.setIfInBounds_toArray, List.set_cons_zero, List.set_cons_succ]
          refine wpAnyH_ready (rs := [13]) (by kernel_rfl) (by simp) ?_
          refine AllReadyH.cons rfl (fun K hK => ?_) AllReadyH.nil
          refine step_append_lies _ rfl _ _ _ rfl 0 25 i1 _ 1 8 Tryz.underlying58 hq1 hz1 hsz1 hby1 rfl (by decide) (.slice As m.nums.length cap) m.nums.length _ rfl HROW.out (ad := ⟨w2.heap.size, 0, none⟩) (m := 1) (c := 1) (news := [.int .u64 (rv : Nat)]) (hx := rfl) (hl := rfl) (hnews := HNEWS.out) (h1 := by simp [Value.oneCell']) (hm := by decide) (h63 := by unfold maxLen; omega) (hbytes := by omega) (hbase := Nat.zero_le _) (H := _) (hH := rfl) (h := ?_)
          intro g' cap' W4 ho hgr hat4 hlt4
          have HC4 := Lib.hid (cells_grown hgr HRa.out.nums HRa.out.cells (by decide))
          have HX4 := Lib.hid (cells_grown hgr HRa.out.nums HXa.out (by decide))
          have e13 := HC4.out.cell (j := 12) rfl
          have ef := HC4.out.fz 12
          have HAT := Lib.hid hat4
          have HPL := Lib.hid (rpushed (r := rv) HRa.out ho hgr)
          clear ho hgr hat4 hlt4
          refine hK.out _ _ trivial (fun hS => ?_)
          clear hK K
          try simp only [Act.put, List.setIfInBounds_toArray, List.set_cons_zero, List.set_cons_succ]
          refine wpAnyH_take (i := 14) (v := ?_) rfl (by kernel_rfl) (by kernel_rfl) (by kernel_rfl) (fun _ _ _ h => h) (Or.inl ⟨by rfl, ?_⟩) hS ?_
          rotate_left
          · (intro wx hSx; (try dsimp only at hSx); go_simp; (try with_reducible rfl))
          simp only [List.getElem_toArray, List.getElem_cons_succ, List.getElem_cons_zero, Act.put, List.setIfInBounds_toArray, List.set_cons_zero, List.set_cons_succ]
          refine wpAnyH_take (i := 15) (v := ?_) rfl (by kernel_rfl) (by kernel_rfl) (by kernel_rfl) (fun _ _ _ h => h) (Or.inl ⟨by rfl, ?_⟩) hS ?_
          rotate_left
          · (intro wx hSx; (try dsimp only at hSx); go_simp; (try with_reducible rfl))
          simp only [List.getElem_toArray, List.getElem_cons_succ, List.getElem_cons_zero, Act.put, List.setIfInBounds_toArray, List.set_cons_zero, List.set_cons_succ]
          refine wpAnyH_ready (rs := [16]) (by kernel_rfl) (by simp) ?_
          refine AllReadyH.cons rfl (fun K hK => ?_) AllReadyH.nil
          go_simp
          refine hK.out _ _ trivial (fun hS => ?_)
          clear hK K
          try simp only [Act.put, List.setIfInBounds_toArray, List.set_cons_zero, List.set_cons_succ]
          refine wpAnyH_done (by kernel_rfl) ?_ _
          clear hS
          go_wp2
          go_ret
          first | exact ⟨(.slice (some ⟨g', 0, none⟩) (m.nums.length + 1) cap'), _, rfl, (by rcases HAT.out with h | h; exact .inl h.symm; exact .inr ⟨_, rfl, by rw [h]; have := HB.out; simp; omega⟩), .inl rfl, by rw [← HMX.out, HRV.out]; exact HPL.out.1, HTa.out.trans HPL.out.2⟩ | exact ⟨rfl, (.slice (some ⟨g', 0, none⟩) (m.nums.length + 1) cap'), (by rcases HAT.out with h | h; exact .inl h.symm; exact .inr ⟨_, rfl, by rw [h]; have := HB.out; simp; omega⟩), _, .inl rfl, by rw [← HMX.out, HRV.out]; exact HPL.out.1, HTa.out.trans HPL.out.2⟩

set_option maxRecDepth 100000 in
set_option maxHeartbeats 4000000 in
theorem rflow_fail {w : World} {g : Nat} {cs nv pv : Value} {m : Mach} (hR : Rw w g cs nv pv m) (hF : m.Fit) (hat : m.at_ < m.code.length) (a b c : Nat) (ha : a < 8) (n : Int) (k : Nat) :
    Calls Tryz.prog 33 #[.pointer (some ⟨g, 0, none⟩), .agg #[.int .i64 23, .int .i64 (a : Nat), .int .i64 (b : Nat), .int .i64 (c : Nat), .int .i64 n, .int .u64 (k : Nat)]] w fun e w' => ∃ nv' pv', e = .returned (.int .i64 7) ∧ Anew w nv nv' ∧ Anew w pv pv' ∧ Rw w' g cs nv' pv' { m with at_ := m.at_ + 1 } ∧ Turns (mOwn g nv pv) w w' := by
  have HR0 := Lib.hid hR
  have hlt := hR.lt
  have h64 : m.at_ < 64 := Nat.lt_of_lt_of_le hat hF.len.2
  have c2 : w.cell? ⟨g, 2, none⟩ = some (.int .i64 (m.at_ : Nat)) := hR.cells.cell (j := 2) rfl
  have c2f := hR.cells.fz 2
  have hwr : wrap64 ((m.at_ : Int) + 1) = (m.at_ : Int) + 1 := by unfold wrap64; omega
  have HF := Lib.hid hF
  obtain ⟨Mx, hMx⟩ : ∃ q : Mach, { m with at_ := m.at_ + 1 } = q := ⟨_, rfl⟩
  rw [hMx]
  have HMX := Lib.hid hMx
  clear hR hF hat hMx
  go_enter Tryz.func33, Tryz.ntmps33
  go_upto_region 2 with fail
  obtain ⟨hR2, ht2⟩ := rat_stored (v := (m.at_ : Int) + 1) (n := m.at_ + 1) HR0.out (by omega)
  have HR := Lib.hid (hR2.alloc (.cells #[.int .i64 23, .int .i64 (a : Nat), .int .i64 (b : Nat), .int .i64 (c : Nat), .int .i64 n, .int .u64 (k : Nat)] 77))
  have HX := Lib.hid (Cells.newAt (w.setCell ⟨g, 2, none⟩ (.int .i64 ((m.at_ : Int) + 1))) 77 #[.int .i64 23, .int .i64 (a : Nat), .int .i64 (b : Nat), .int .i64 (c : Nat), .int .i64 n, .int .u64 (k : Nat)] w.heap.size (by simp [World.setCell]))
  have HT := Lib.hid (show Turns (mOwn g nv pv) w _ from (turns_g ht2).alloc (.cells #[.int .i64 23, .int .i64 (a : Nat), .int .i64 (b : Nat), .int .i64 (c : Nat), .int .i64 n, .int .u64 (k : Nat)] 77))
  have HB : Hid (w.heap.size ≤ ((w.setCell ⟨g, 2, none⟩ (.int .i64 ((m.at_ : Int) + 1))).alloc (.cells #[.int .i64 23, .int .i64 (a : Nat), .int .i64 (b : Nat), .int .i64 (c : Nat), .int .i64 n, .int .u64 (k : Nat)] 77)).heap.size) := Lib.hid HT.out.size
  clear hR2 ht2 c2 c2f HR0
  generalize (w.setCell ⟨g, 2, none⟩ (.int .i64 ((m.at_ : Int) + 1))).alloc (.cells #[.int .i64 23, .int .i64 (a : Nat), .int .i64 (b : Nat), .int .i64 (c : Nat), .int .i64 n, .int .u64 (k : Nat)] 77) = w2 at *
  have y0 : w2.cell? ⟨w.heap.size, 0, none⟩ = some (.int .i64 23) := HX.out.cell (j := 0) rfl
  have y1 : w2.cell? ⟨w.heap.size, 1, none⟩ = some (.int .i64 (a : Nat)) := HX.out.cell (j := 1) rfl
  have y4 : w2.cell? ⟨w.heap.size, 4, none⟩ = some (.int .i64 n) := HX.out.cell (j := 4) rfl
  have d2 : w2.cell? ⟨g, 2, none⟩ = some (.int .i64 ((m.at_ + 1 : Nat) : Int)) := HR.out.cells.cell (j := 2) rfl
  have d2f := HR.out.cells.fz 2
  go_wp2
  go_ret
  first | exact ⟨_, _, rfl, .inl rfl, .inl rfl, by rw [← HMX.out]; exact HR.out, HT.out⟩ | exact ⟨rfl, _, .inl rfl, _, .inl rfl, by rw [← HMX.out]; exact HR.out, HT.out⟩

set_option maxRecDepth 100000 in
set_option maxHeartbeats 4000000 in
theorem rflow_halt {w : World} {g : Nat} {cs nv pv : Value} {m : Mach} (hR : Rw w g cs nv pv m) (hF : m.Fit) (hat : m.at_ < m.code.length) (a b c : Nat) (ha : a < 8) (n : Int) (k : Nat) :
    Calls Tryz.prog 33 #[.pointer (some ⟨g, 0, none⟩), .agg #[.int .i64 24, .int .i64 (a : Nat), .int .i64 (b : Nat), .int .i64 (c : Nat), .int .i64 n, .int .u64 (k : Nat)]] w fun e w' => ∃ nv' pv', e = .returned (.int .i64 0) ∧ Anew w nv nv' ∧ Anew w pv pv' ∧ Rw w' g cs nv' pv' { m with at_ := m.at_ + 1 } ∧ Turns (mOwn g nv pv) w w' := by
  have HR0 := Lib.hid hR
  have hlt := hR.lt
  have h64 : m.at_ < 64 := Nat.lt_of_lt_of_le hat hF.len.2
  have c2 : w.cell? ⟨g, 2, none⟩ = some (.int .i64 (m.at_ : Nat)) := hR.cells.cell (j := 2) rfl
  have c2f := hR.cells.fz 2
  have hwr : wrap64 ((m.at_ : Int) + 1) = (m.at_ : Int) + 1 := by unfold wrap64; omega
  have HF := Lib.hid hF
  obtain ⟨Mx, hMx⟩ : ∃ q : Mach, { m with at_ := m.at_ + 1 } = q := ⟨_, rfl⟩
  rw [hMx]
  have HMX := Lib.hid hMx
  clear hR hF hat hMx
  go_enter Tryz.func33, Tryz.ntmps33
  go_upto_region 2 with fail
  obtain ⟨hR2, ht2⟩ := rat_stored (v := (m.at_ : Int) + 1) (n := m.at_ + 1) HR0.out (by omega)
  have HR := Lib.hid (hR2.alloc (.cells #[.int .i64 24, .int .i64 (a : Nat), .int .i64 (b : Nat), .int .i64 (c : Nat), .int .i64 n, .int .u64 (k : Nat)] 77))
  have HX := Lib.hid (Cells.newAt (w.setCell ⟨g, 2, none⟩ (.int .i64 ((m.at_ : Int) + 1))) 77 #[.int .i64 24, .int .i64 (a : Nat), .int .i64 (b : Nat), .int .i64 (c : Nat), .int .i64 n, .int .u64 (k : Nat)] w.heap.size (by simp [World.setCell]))
  have HT := Lib.hid (show Turns (mOwn g nv pv) w _ from (turns_g ht2).alloc (.cells #[.int .i64 24, .int .i64 (a : Nat), .int .i64 (b : Nat), .int .i64 (c : Nat), .int .i64 n, .int .u64 (k : Nat)] 77))
  have HB : Hid (w.heap.size ≤ ((w.setCell ⟨g, 2, none⟩ (.int .i64 ((m.at_ : Int) + 1))).alloc (.cells #[.int .i64 24, .int .i64 (a : Nat), .int .i64 (b : Nat), .int .i64 (c : Nat), .int .i64 n, .int .u64 (k : Nat)] 77)).heap.size) := Lib.hid HT.out.size
  clear hR2 ht2 c2 c2f HR0
  generalize (w.setCell ⟨g, 2, none⟩ (.int .i64 ((m.at_ : Int) + 1))).alloc (.cells #[.int .i64 24, .int .i64 (a : Nat), .int .i64 (b : Nat), .int .i64 (c : Nat), .int .i64 n, .int .u64 (k : Nat)] 77) = w2 at *
  have y0 : w2.cell? ⟨w.heap.size, 0, none⟩ = some (.int .i64 24) := HX.out.cell (j := 0) rfl
  have y1 : w2.cell? ⟨w.heap.size, 1, none⟩ = some (.int .i64 (a : Nat)) := HX.out.cell (j := 1) rfl
  have y4 : w2.cell? ⟨w.heap.size, 4, none⟩ = some (.int .i64 n) := HX.out.cell (j := 4) rfl
  have d2 : w2.cell? ⟨g, 2, none⟩ = some (.int .i64 ((m.at_ + 1 : Nat) : Int)) := HR.out.cells.cell (j := 2) rfl
  have d2f := HR.out.cells.fz 2
  go_wp2
  go_ret
  first | exact ⟨_, _, rfl, .inl rfl, .inl rfl, by rw [← HMX.out]; exact HR.out, HT.out⟩ | exact ⟨rfl, _, .inl rfl, _, .inl rfl, by rw [← HMX.out]; exact HR.out, HT.out⟩

theorem rflow_any {w : World} {g : Nat} {cs nv pv : Value} {m : Mach} (hR : Rw w g cs nv pv m) (hF : m.Fit) (hat : m.at_ < m.code.length) {x : Ins} {many : Nat} (hx : x.Ok many) (h14 : 14 ≤ x.op) (h21 : x.op ≠ 21) (h22 : x.op ≠ 22) :
    Calls Tryz.prog 33 #[.pointer (some ⟨g, 0, none⟩), xval x] w fun e w' => ∃ nv' pv', e = .returned (.int .i64 (flowM m x).2) ∧ Anew w nv nv' ∧ Anew w pv pv' ∧ Rw w' g cs nv' pv' (flowM m x).1 ∧ Turns (mOwn g nv pv) w w' := by
  obtain ⟨a, ea⟩ := Int.eq_ofNat_of_zero_le hx.a.1
  obtain ⟨b, eb⟩ := Int.eq_ofNat_of_zero_le hx.b.1
  obtain ⟨c, ec⟩ := Int.eq_ofNat_of_zero_le hx.c.1
  have ha : a < 8 := by have := hx.a.2; omega
  have hn := hx.n.1
  have h1 := hx.op.1
  have h2 := hx.op.2
  obtain ⟨op, xa, xb, xc, n, k⟩ := x
  dsimp only at ea eb ec hn h1 h2 h14 h21 h22
  subst ea eb ec
  unfold xval flowM Mach.reg
  dsimp only
  have h : op = 14 ∨ op = 15 ∨ op = 16 ∨ op = 17 ∨ op = 18 ∨ op = 19 ∨ op = 20 ∨ op = 23 ∨ op = 24 := by omega
  rcases h with rfl | rfl | rfl | rfl | rfl | rfl | rfl | rfl | rfl
  · exact rflow_jump hR hF hat a b c ha n k hn
  · rw [if_neg (by decide), if_pos rfl]
    by_cases hc : fclass (m.regs.getD a 0) = 2
    · have e : (if fclass (m.regs.getD ((a : Nat) : Int).toNat 0) ≠ 2 then n.toNat else m.at_ + 1) = m.at_ + 1 := if_neg (fun h => h hc)
      rw [e]
      exact rflow_ifnot hR hF hat a b c ha n k hc
    · have e : (if fclass (m.regs.getD ((a : Nat) : Int).toNat 0) ≠ 2 then n.toNat else m.at_ + 1) = n.toNat := if_pos hc
      rw [e]
      exact rflow_if hR hF hat a b c ha n k hn hc
  · by_cases hc : (fintR (m.regs.getD a 0)).2 = 0 ∧ 0 ≤ (fintR (m.regs.getD a 0)).1 ∧ (fintR (m.regs.getD a 0)).1 ≤ (m.code.length : Int)
    · have := rflow_goto hR hF hat a b c ha n k hc
      rw [if_neg (by decide), if_neg (by decide), if_pos rfl, if_pos (by simpa using hc)]
      exact this
    · have := rflow_gotonot hR hF hat a b c ha n k hc
      rw [if_neg (by decide), if_neg (by decide), if_pos rfl, if_neg (by simpa using hc)]
      exact this
  · rw [if_neg (by decide), if_neg (by decide), if_neg (by decide), if_pos rfl]
    by_cases hc : m.places.length < 8
    · rw [if_pos hc]
      exact rflow_call hR hF hat a b c ha n k hn hc
    · rw [if_neg hc]
      exact rflow_callfull hR hF hat a b c ha n k (by have := hF.plen; omega)
  · rw [if_neg (by decide), if_neg (by decide), if_neg (by decide), if_neg (by decide), if_pos rfl]
    by_cases hc : 0 < m.places.length
    · rw [if_pos hc]
      obtain ⟨n0, h0⟩ : ∃ n0, m.places.length = n0 + 1 := ⟨m.places.length - 1, by omega⟩
      exact rflow_ret hR hF hat a b c ha n k h0
    · rw [if_neg hc]
      exact rflow_retempty hR hF hat a b c ha n k (by omega)
  · rw [if_neg (by decide), if_neg (by decide), if_neg (by decide), if_neg (by decide), if_neg (by decide), if_pos rfl]
    by_cases hc : m.nums.length < 8
    · rw [if_pos hc]
      exact rflow_push hR hF hat a b c ha n k hc
    · rw [if_neg hc]
      exact rflow_pushfull hR hF hat a b c ha n k (by have := hF.nlen; omega)
  · rw [if_neg (by decide), if_neg (by decide), if_neg (by decide), if_neg (by decide), if_neg (by decide), if_neg (by decide), if_pos rfl]
    by_cases hc : 0 < m.nums.length
    · rw [if_pos hc]
      obtain ⟨n0, h0⟩ : ∃ n0, m.nums.length = n0 + 1 := ⟨m.nums.length - 1, by omega⟩
      exact rflow_pop hR hF hat a b c ha n k h0
    · rw [if_neg hc]
      exact rflow_popempty hR hF hat a b c ha n k (by omega)
  · exact rflow_fail hR hF hat a b c ha n k
  · exact rflow_halt hR hF hat a b c ha n k

end Go.Proofs.YtjloiclbknfomaaGreatDoor
