/- (*interp.Machine).jump: where an instruction goes on (contracts). -/
import Derived.Test.YtjloiclbknfomaaGreatDoorKe
set_option maxRecDepth 100000
namespace Go.Proofs.YtjloiclbknfomaaGreatDoor
open Go.RowKit Ieee

theorem own_some {w : World} {base : Nat} {e : TypeId} {size : Nat} {v : Value} {n : Nat} {xs : List Value} (h : w.ownsRow base e size v (n + 1) xs) : ∃ k cap, v = .slice (some ⟨k, 0, none⟩) (n + 1) cap := by
  rcases own_shape h with ⟨_, hn⟩ | ⟨k, cap, rfl, _⟩
  · cases hn
  · exact ⟨k, cap, rfl⟩
theorem info_int : ∃ i, Tryz.prog.info? 3 = some i ∧ i.zero = some (.int .i64 0) ∧ i.size = 1 ∧ i.bytes = 8 := info_split (by kernel_rfl)
theorem placed {wq W4 : World} {g : Nat} {cs nv pv v' : Value} {m : Mach} {r : Nat} (h : Mw wq g cs nv pv m) (ho : W4.ownsRow 0 3 1 v' (m.places.length + 1) (m.places.map I ++ [.int .i64 (r : Nat)])) (hgr : wq.grownBy W4 pv.ownBlock) :
    Mw (W4.setCell ⟨g, 13, none⟩ v') g cs nv v' { m with places := m.places ++ [r] } ∧ Turns (mOwn g nv pv) wq (W4.setCell ⟨g, 13, none⟩ v') := by
  have hc := cells_grown hgr h.places h.cells (by decide)
  have ht : Turns (mOwn g nv pv) wq W4 := grown_turns hgr fun k hk => mOwn_p hk
  have hts : Turns [g] W4 (W4.setCell ⟨g, 13, none⟩ v') := (Turns.refl _ _).set (.inl (by simp)) _
  have a := own_ne_block h.code h.cells (by decide)
  have b := own_ne_block h.nums h.cells (by decide)
  have c := own_ne_own h.places h.code (by decide)
  have d := own_ne_own h.places h.nums (by decide)
  have hx : (m.places.map I ++ [.int .i64 (r : Nat)]) = (m.places ++ [r]).map I := by simp [I]
  rw [hx] at ho
  refine ⟨⟨hc.set 13 _, ?_, ?_, ?_⟩, ht.trans (hts.mono fun x hx => .inl (mOwn_only g nv pv hx))⟩
  · refine row_turns (h.code.kept hgr ?_) hts fun k hk => by simpa using a k hk
    cases hk : cs.ownBlock with
    | none => exact .inl rfl
    | some k => exact .inr fun e => c k k e.symm hk rfl
  · refine row_turns (h.nums.kept hgr ?_) hts fun k hk => by simpa using b k hk
    cases hk : nv.ownBlock with
    | none => exact .inl rfl
    | some k => exact .inr fun e => d k k e.symm hk rfl
  · have hne := own_ne_block ho hc (by decide)
    have := row_turns ho hts fun k hk => by simpa using hne k hk
    simpa using this
theorem unplaced {w : World} {g : Nat} {cs nv : Value} {m : Mach} {A : Option Addr} {n cap : Nat} (h1 : Mw w g cs nv (.slice A (n + 1) cap) m) (hn : m.places.length = n + 1) :
    Mw (w.setCell ⟨g, 13, none⟩ (.slice A n cap)) g cs nv (.slice A n cap) { m with places := m.places.dropLast } ∧ Turns (mOwn g nv (.slice A (n + 1) cap)) w (w.setCell ⟨g, 13, none⟩ (.slice A n cap)) := by
  have hts : Turns [g] w (w.setCell ⟨g, 13, none⟩ (.slice A n cap)) := (Turns.refl _ _).set (.inl (by simp)) _
  have x1 := own_ne_block h1.code h1.cells (by decide)
  have x2 := own_ne_block h1.nums h1.cells (by decide)
  have x3 := own_ne_block h1.places h1.cells (by decide)
  refine ⟨⟨h1.cells.set 13 _, row_turns h1.code hts fun k hk => by simpa using x1 k hk, row_turns h1.nums hts fun k hk => by simpa using x2 k hk, ?_⟩, hts.mono fun x hx => .inl (mOwn_only _ _ _ hx)⟩
  have hrow := h1.places
  simp only [hn] at hrow
  obtain ⟨b, rfl, _, _, hp⟩ := own_pop hrow
  have hd : (m.places.map I).take n = m.places.dropLast.map I := by
    rw [List.dropLast_eq_take, hn, ← List.map_take]
    simp
  rw [hd] at hp
  have hl : m.places.dropLast.length = n := by simp [hn]
  have := row_turns hp hts fun k hk => by simpa using x3 k hk
  simpa only [hl] using this

set_option maxRecDepth 100000 in
set_option maxHeartbeats 2000000 in
theorem jump_next {w : World} {g : Nat} {cs nv pv : Value} {m : Mach} (hM : Mw w g cs nv pv m) (hF : m.Fit) (hgo : m.at_ < m.code.length) (a b c : Nat) (ha : a < 8) (n : Int) (k : Nat) {op : Int} (h : op ≠ 14 ∧ op ≠ 15 ∧ op ≠ 16 ∧ op ≠ 17 ∧ op ≠ 18) : Calls Tryz.prog 37 #[.pointer (some ⟨g, 0, none⟩), .agg #[.int .i64 op, .int .i64 (a : Nat), .int .i64 (b : Nat), .int .i64 (c : Nat), .int .i64 n, .int .u64 (k : Nat)]] w fun e w' => e = .returned (.int .i64 ((m.at_ + 1 : Nat))) ∧ Mw w' g cs nv pv m ∧ Turns (mOwn g nv pv) w w' := by
  have HM0 := Lib.hid hM
  have hlt := hM.lt
  have hat : m.at_ < 64 := Nat.lt_of_lt_of_le hgo hF.len.2
  have c2 : w.cell? ⟨g, 2, none⟩ = some (.int .i64 (m.at_ : Nat)) := hM.cells.cell (j := 2) rfl
  have hwr : wrap64 ((m.at_ : Int) + 1) = (m.at_ : Int) + 1 := by unfold wrap64; omega
  have t14 : (op == 14) = false := by rw [beq_eq_false_iff_ne]; omega
  have t15 : (op == 15) = false := by rw [beq_eq_false_iff_ne]; omega
  have t16 : (op == 16) = false := by rw [beq_eq_false_iff_ne]; omega
  have t17 : (op == 17) = false := by rw [beq_eq_false_iff_ne]; omega
  have t18 : (op == 18) = false := by rw [beq_eq_false_iff_ne]; omega
  clear hM hF hgo h
  go_enter Tryz.func37, Tryz.ntmps37
  go_wp2
  go_ret
  exact ⟨rfl, (HM0.out.alloc (.cells #[.int .i64 op, .int .i64 (a : Nat), .int .i64 (b : Nat), .int .i64 (c : Nat), .int .i64 n, .int .u64 (k : Nat)] 77)), (Turns.of_below ((Below.refl _ _).alloc (Nat.le_refl _) (.cells #[.int .i64 op, .int .i64 (a : Nat), .int .i64 (b : Nat), .int .i64 (c : Nat), .int .i64 n, .int .u64 (k : Nat)] 77)))⟩

set_option maxRecDepth 100000 in
set_option maxHeartbeats 2000000 in
theorem jump_jump {w : World} {g : Nat} {cs nv pv : Value} {m : Mach} (hM : Mw w g cs nv pv m) (hF : m.Fit) (hgo : m.at_ < m.code.length) (a b c : Nat) (ha : a < 8) (n : Int) (k : Nat) : Calls Tryz.prog 37 #[.pointer (some ⟨g, 0, none⟩), .agg #[.int .i64 14, .int .i64 (a : Nat), .int .i64 (b : Nat), .int .i64 (c : Nat), .int .i64 n, .int .u64 (k : Nat)]] w fun e w' => e = .returned (.int .i64 (n)) ∧ Mw w' g cs nv pv m ∧ Turns (mOwn g nv pv) w w' := by
  have HM0 := Lib.hid hM
  have hlt := hM.lt
  have hat : m.at_ < 64 := Nat.lt_of_lt_of_le hgo hF.len.2
  have c2 : w.cell? ⟨g, 2, none⟩ = some (.int .i64 (m.at_ : Nat)) := hM.cells.cell (j := 2) rfl
  have hwr : wrap64 ((m.at_ : Int) + 1) = (m.at_ : Int) + 1 := by unfold wrap64; omega
  clear hM hF hgo
  go_enter Tryz.func37, Tryz.ntmps37
  go_wp2
  go_ret
  exact ⟨rfl, (HM0.out.alloc (.cells #[.int .i64 14, .int .i64 (a : Nat), .int .i64 (b : Nat), .int .i64 (c : Nat), .int .i64 n, .int .u64 (k : Nat)] 77)), (Turns.of_below ((Below.refl _ _).alloc (Nat.le_refl _) (.cells #[.int .i64 14, .int .i64 (a : Nat), .int .i64 (b : Nat), .int .i64 (c : Nat), .int .i64 n, .int .u64 (k : Nat)] 77)))⟩

set_option maxRecDepth 100000 in
set_option maxHeartbeats 2000000 in
theorem jump_if {w : World} {g : Nat} {cs nv pv : Value} {m : Mach} (hM : Mw w g cs nv pv m) (hF : m.Fit) (hgo : m.at_ < m.code.length) (a b c : Nat) (ha : a < 8) (n : Int) (k : Nat) : Calls Tryz.prog 37 #[.pointer (some ⟨g, 0, none⟩), .agg #[.int .i64 15, .int .i64 (a : Nat), .int .i64 (b : Nat), .int .i64 (c : Nat), .int .i64 n, .int .u64 (k : Nat)]] w fun e w' => e = .returned (.int .i64 (if fclass (m.regs.getD a 0) ≠ 2 then n else (m.at_ + 1 : Nat))) ∧ Mw w' g cs nv pv m ∧ Turns (mOwn g nv pv) w w' := by
  have HM0 := Lib.hid hM
  have hlt := hM.lt
  have hat : m.at_ < 64 := Nat.lt_of_lt_of_le hgo hF.len.2
  have c2 : w.cell? ⟨g, 2, none⟩ = some (.int .i64 (m.at_ : Nat)) := hM.cells.cell (j := 2) rfl
  have hwr : wrap64 ((m.at_ : Int) + 1) = (m.at_ : Int) + 1 := by unfold wrap64; omega
  have qa : m.regs.getD a 0 < 2 * signB := (can_reg hF a ha).1
  have r0 : w.cell? ⟨g, 4 + a, none⟩ = some (.int .u64 (m.regs.getD a 0 : Nat)) := hM.cells.cell (cells_reg m cs nv pv a ha)
  have i0 : (0 : Int) ≤ a := by omega
  have i1 : (a : Int) < 8 := by omega
  have kc := fun w => class_any qa w
  clear hM hF hgo
  obtain ⟨v, hv⟩ : ∃ v, m.regs.getD a 0 = v := ⟨_, rfl⟩
  rw [hv] at r0 kc
  rw [hv]
  obtain ⟨cl, hcl⟩ : ∃ cl, fclass v = cl := ⟨_, rfl⟩
  rw [hcl] at kc
  rw [hcl]
  clear hv hcl qa
  by_cases h2 : cl = 2
  · subst h2
    rw [if_neg (by decide)]
    go_enter Tryz.func37, Tryz.ntmps37
    go_upto_region 6 with (fail)
    have HX := Lib.hid (Cells.new w 77 #[.int .i64 15, .int .i64 (a : Nat), .int .i64 (b : Nat), .int .i64 (c : Nat), .int .i64 n, .int .u64 (k : Nat)])
    have HM := Lib.hid (HM0.out.alloc (.cells #[.int .i64 15, .int .i64 (a : Nat), .int .i64 (b : Nat), .int .i64 (c : Nat), .int .i64 n, .int .u64 (k : Nat)] 77))
    have HB := Lib.hid ((Below.refl w.heap.size w).alloc (Nat.le_refl _) (.cells #[.int .i64 15, .int .i64 (a : Nat), .int .i64 (b : Nat), .int .i64 (c : Nat), .int .i64 n, .int .u64 (k : Nat)] 77))
    generalize w.alloc (.cells #[.int .i64 15, .int .i64 (a : Nat), .int .i64 (b : Nat), .int .i64 (c : Nat), .int .i64 n, .int .u64 (k : Nat)] 77) = w2 at *
    have y1 : w2.cell? ⟨w.heap.size, 1, none⟩ = some (.int .i64 (a : Nat)) := HX.out.cell (j := 1) rfl
    have y4 : w2.cell? ⟨w.heap.size, 4, none⟩ = some (.int .i64 n) := HX.out.cell (j := 4) rfl
    have r2 : w2.cell? ⟨g, 4 + a, none⟩ = some (.int .u64 (v : Nat)) := (HB.out.cell (p := ⟨g, 4 + a, none⟩) hlt).trans r0
    go_quiet ((go_at_call 60; refine Calls.quiet_of (kc _)))
    go_wp2
    go_ret
    exact ⟨rfl, HM.out.drewN _, (Turns.of_below HB.out).drewN _⟩
  · rw [if_pos h2]
    have t1 : (cl == 2) = false := by rw [beq_eq_false_iff_ne]; exact h2
    have t2 : (cl != 2) = true := by simp [bne, t1]
    clear h2
    go_enter Tryz.func37, Tryz.ntmps37
    go_upto_region 6 with (fail)
    have HX := Lib.hid (Cells.new w 77 #[.int .i64 15, .int .i64 (a : Nat), .int .i64 (b : Nat), .int .i64 (c : Nat), .int .i64 n, .int .u64 (k : Nat)])
    have HM := Lib.hid (HM0.out.alloc (.cells #[.int .i64 15, .int .i64 (a : Nat), .int .i64 (b : Nat), .int .i64 (c : Nat), .int .i64 n, .int .u64 (k : Nat)] 77))
    have HB := Lib.hid ((Below.refl w.heap.size w).alloc (Nat.le_refl _) (.cells #[.int .i64 15, .int .i64 (a : Nat), .int .i64 (b : Nat), .int .i64 (c : Nat), .int .i64 n, .int .u64 (k : Nat)] 77))
    generalize w.alloc (.cells #[.int .i64 15, .int .i64 (a : Nat), .int .i64 (b : Nat), .int .i64 (c : Nat), .int .i64 n, .int .u64 (k : Nat)] 77) = w2 at *
    have y1 : w2.cell? ⟨w.heap.size, 1, none⟩ = some (.int .i64 (a : Nat)) := HX.out.cell (j := 1) rfl
    have y4 : w2.cell? ⟨w.heap.size, 4, none⟩ = some (.int .i64 n) := HX.out.cell (j := 4) rfl
    have r2 : w2.cell? ⟨g, 4 + a, none⟩ = some (.int .u64 (v : Nat)) := (HB.out.cell (p := ⟨g, 4 + a, none⟩) hlt).trans r0
    go_quiet ((go_at_call 60; refine Calls.quiet_of (kc _)))
    go_wp2
    go_ret
    exact ⟨rfl, HM.out.drewN _, (Turns.of_below HB.out).drewN _⟩

set_option maxRecDepth 100000 in
set_option maxHeartbeats 2000000 in
theorem jump_goto {w : World} {g : Nat} {cs nv pv : Value} {m : Mach} (hM : Mw w g cs nv pv m) (hF : m.Fit) (hgo : m.at_ < m.code.length) (a b c : Nat) (ha : a < 8) (n : Int) (k : Nat) (hok : (fintR (m.regs.getD a 0)).2 = 0 ∧ 0 ≤ (fintR (m.regs.getD a 0)).1 ∧ (fintR (m.regs.getD a 0)).1 ≤ (m.code.length : Int)) : Calls Tryz.prog 37 #[.pointer (some ⟨g, 0, none⟩), .agg #[.int .i64 16, .int .i64 (a : Nat), .int .i64 (b : Nat), .int .i64 (c : Nat), .int .i64 n, .int .u64 (k : Nat)]] w fun e w' => e = .returned (.int .i64 ((fintR (m.regs.getD a 0)).1)) ∧ Mw w' g cs nv pv m ∧ Turns (mOwn g nv pv) w w' := by
  have HM0 := Lib.hid hM
  have hlt := hM.lt
  have hat : m.at_ < 64 := Nat.lt_of_lt_of_le hgo hF.len.2
  have c2 : w.cell? ⟨g, 2, none⟩ = some (.int .i64 (m.at_ : Nat)) := hM.cells.cell (j := 2) rfl
  have hwr : wrap64 ((m.at_ : Int) + 1) = (m.at_ : Int) + 1 := by unfold wrap64; omega
  have qa : m.regs.getD a 0 < 2 * signB := (can_reg hF a ha).1
  have r0 : w.cell? ⟨g, 4 + a, none⟩ = some (.int .u64 (m.regs.getD a 0 : Nat)) := hM.cells.cell (cells_reg m cs nv pv a ha)
  have i0 : (0 : Int) ≤ a := by omega
  have i1 : (a : Int) < 8 := by omega
  obtain ⟨Ac, ccap, rfl⟩ := own_slice hM.code
  have c1 : w.cell? ⟨g, 1, none⟩ = some (.slice Ac m.code.length ccap) := hM.cells.cell (j := 1) rfl
  have kc := fun w => int_any qa w
  clear hM hF hgo
  obtain ⟨v, hv⟩ : ∃ v, m.regs.getD a 0 = v := ⟨_, rfl⟩
  rw [hv] at r0 kc hok
  have HV := Lib.hid hv
  clear hv
  obtain ⟨nn, hnn⟩ : ∃ z, (fintR v).1 = z := ⟨_, rfl⟩
  obtain ⟨ee, hee⟩ : ∃ z, (fintR v).2 = z := ⟨_, rfl⟩
  rw [hnn, hee] at kc hok
  have HNN := Lib.hid hnn
  clear hnn hee qa
  obtain ⟨rfl, h1, h2⟩ := hok
  go_enter Tryz.func37, Tryz.ntmps37
  go_upto_region 9 with (fail)
  have HX := Lib.hid (Cells.new w 77 #[.int .i64 16, .int .i64 (a : Nat), .int .i64 (b : Nat), .int .i64 (c : Nat), .int .i64 n, .int .u64 (k : Nat)])
  have HM := Lib.hid (HM0.out.alloc (.cells #[.int .i64 16, .int .i64 (a : Nat), .int .i64 (b : Nat), .int .i64 (c : Nat), .int .i64 n, .int .u64 (k : Nat)] 77))
  have HB := Lib.hid ((Below.refl w.heap.size w).alloc (Nat.le_refl _) (.cells #[.int .i64 16, .int .i64 (a : Nat), .int .i64 (b : Nat), .int .i64 (c : Nat), .int .i64 n, .int .u64 (k : Nat)] 77))
  generalize w.alloc (.cells #[.int .i64 16, .int .i64 (a : Nat), .int .i64 (b : Nat), .int .i64 (c : Nat), .int .i64 n, .int .u64 (k : Nat)] 77) = w2 at *
  have y1 : w2.cell? ⟨w.heap.size, 1, none⟩ = some (.int .i64 (a : Nat)) := HX.out.cell (j := 1) rfl
  have y4 : w2.cell? ⟨w.heap.size, 4, none⟩ = some (.int .i64 n) := HX.out.cell (j := 4) rfl
  have r2 : w2.cell? ⟨g, 4 + a, none⟩ = some (.int .u64 (v : Nat)) := (HB.out.cell (p := ⟨g, 4 + a, none⟩) hlt).trans r0
  have e1 : w2.cell? ⟨g, 1, none⟩ = some (.slice Ac m.code.length ccap) := HM.out.cells.cell (j := 1) rfl
  go_quiet ((go_at_call 61; refine Calls.quiet_of (kc _)))
  go_wp2_with (go_at_call 58; with_reducible (refine (must_yes _ _).mono ?_); rintro _ _ ⟨rfl, rfl⟩)
  go_ret
  exact ⟨by rw [HV.out, HNN.out]; rfl, HM.out.drewN _, (Turns.of_below HB.out).drewN _⟩

set_option maxRecDepth 100000 in
set_option maxHeartbeats 2000000 in
theorem jump_goto_no {w : World} {g : Nat} {cs nv pv : Value} {m : Mach} (hM : Mw w g cs nv pv m) (hF : m.Fit) (hgo : m.at_ < m.code.length) (a b c : Nat) (ha : a < 8) (n : Int) (k : Nat) (hok : ¬ ((fintR (m.regs.getD a 0)).2 = 0 ∧ 0 ≤ (fintR (m.regs.getD a 0)).1 ∧ (fintR (m.regs.getD a 0)).1 ≤ (m.code.length : Int))) : Calls Tryz.prog 37 #[.pointer (some ⟨g, 0, none⟩), .agg #[.int .i64 16, .int .i64 (a : Nat), .int .i64 (b : Nat), .int .i64 (c : Nat), .int .i64 n, .int .u64 (k : Nat)]] w fun e w' => e = .panicked (trapped 4) ∧ Mw w' g cs nv pv m ∧ Turns (mOwn g nv pv) w w' := by
  have HM0 := Lib.hid hM
  have hlt := hM.lt
  have hat : m.at_ < 64 := Nat.lt_of_lt_of_le hgo hF.len.2
  have c2 : w.cell? ⟨g, 2, none⟩ = some (.int .i64 (m.at_ : Nat)) := hM.cells.cell (j := 2) rfl
  have hwr : wrap64 ((m.at_ : Int) + 1) = (m.at_ : Int) + 1 := by unfold wrap64; omega
  have qa : m.regs.getD a 0 < 2 * signB := (can_reg hF a ha).1
  have r0 : w.cell? ⟨g, 4 + a, none⟩ = some (.int .u64 (m.regs.getD a 0 : Nat)) := hM.cells.cell (cells_reg m cs nv pv a ha)
  have i0 : (0 : Int) ≤ a := by omega
  have i1 : (a : Int) < 8 := by omega
  obtain ⟨Ac, ccap, rfl⟩ := own_slice hM.code
  have c1 : w.cell? ⟨g, 1, none⟩ = some (.slice Ac m.code.length ccap) := hM.cells.cell (j := 1) rfl
  have kc := fun w => int_any qa w
  clear hM hF hgo
  obtain ⟨v, hv⟩ : ∃ v, m.regs.getD a 0 = v := ⟨_, rfl⟩
  rw [hv] at r0 kc hok
  have HV := Lib.hid hv
  clear hv
  obtain ⟨nn, hnn⟩ : ∃ z, (fintR v).1 = z := ⟨_, rfl⟩
  obtain ⟨ee, hee⟩ : ∃ z, (fintR v).2 = z := ⟨_, rfl⟩
  rw [hnn, hee] at kc hok
  have HNN := Lib.hid hnn
  clear hnn hee qa
  go_enter Tryz.func37, Tryz.ntmps37
  go_upto_region 9 with (fail)
  have HX := Lib.hid (Cells.new w 77 #[.int .i64 16, .int .i64 (a : Nat), .int .i64 (b : Nat), .int .i64 (c : Nat), .int .i64 n, .int .u64 (k : Nat)])
  have HM := Lib.hid (HM0.out.alloc (.cells #[.int .i64 16, .int .i64 (a : Nat), .int .i64 (b : Nat), .int .i64 (c : Nat), .int .i64 n, .int .u64 (k : Nat)] 77))
  have HB := Lib.hid ((Below.refl w.heap.size w).alloc (Nat.le_refl _) (.cells #[.int .i64 16, .int .i64 (a : Nat), .int .i64 (b : Nat), .int .i64 (c : Nat), .int .i64 n, .int .u64 (k : Nat)] 77))
  generalize w.alloc (.cells #[.int .i64 16, .int .i64 (a : Nat), .int .i64 (b : Nat), .int .i64 (c : Nat), .int .i64 n, .int .u64 (k : Nat)] 77) = w2 at *
  have y1 : w2.cell? ⟨w.heap.size, 1, none⟩ = some (.int .i64 (a : Nat)) := HX.out.cell (j := 1) rfl
  have y4 : w2.cell? ⟨w.heap.size, 4, none⟩ = some (.int .i64 n) := HX.out.cell (j := 4) rfl
  have r2 : w2.cell? ⟨g, 4 + a, none⟩ = some (.int .u64 (v : Nat)) := (HB.out.cell (p := ⟨g, 4 + a, none⟩) hlt).trans r0
  have e1 : w2.cell? ⟨g, 1, none⟩ = some (.slice Ac m.code.length ccap) := HM.out.cells.cell (j := 1) rfl
  go_quiet ((go_at_call 61; refine Calls.quiet_of (kc _)))
  by_cases g1 : ee = 0
  · subst g1
    by_cases g2 : 0 ≤ nn
    · have g3 : ¬ nn ≤ (m.code.length : Int) := fun h => hok ⟨rfl, g2, h⟩
      clear hok
      go_wp2_with (go_at_call 58; with_reducible (refine (must_no _ _).mono ?_); rintro _ _ ⟨rfl, rfl⟩)
      exact ⟨rfl, rfl, HM.out.drewN _, (Turns.of_below HB.out).drewN _⟩
    · clear hok
      go_wp2_with (go_at_call 58; with_reducible (refine (must_no _ _).mono ?_); rintro _ _ ⟨rfl, rfl⟩)
      exact ⟨rfl, rfl, HM.out.drewN _, (Turns.of_below HB.out).drewN _⟩
  · have g2 : (ee == 0) = false := by rw [beq_eq_false_iff_ne]; exact g1
    clear hok g1
    go_wp2_with (go_at_call 58; with_reducible (refine (must_no _ _).mono ?_); rintro _ _ ⟨rfl, rfl⟩)
    exact ⟨rfl, rfl, HM.out.drewN _, (Turns.of_below HB.out).drewN _⟩

set_option maxRecDepth 100000 in
set_option maxHeartbeats 2000000 in
theorem jump_call_no {w : World} {g : Nat} {cs nv pv : Value} {m : Mach} (hM : Mw w g cs nv pv m) (hF : m.Fit) (hgo : m.at_ < m.code.length) (a b c : Nat) (ha : a < 8) (n : Int) (k : Nat) (hfull : ¬ m.places.length < 8) : Calls Tryz.prog 37 #[.pointer (some ⟨g, 0, none⟩), .agg #[.int .i64 17, .int .i64 (a : Nat), .int .i64 (b : Nat), .int .i64 (c : Nat), .int .i64 n, .int .u64 (k : Nat)]] w fun e w' => e = .panicked (trapped 2) ∧ Mw w' g cs nv pv m ∧ Turns (mOwn g nv pv) w w' := by
  have HM0 := Lib.hid hM
  have hlt := hM.lt
  have hat : m.at_ < 64 := Nat.lt_of_lt_of_le hgo hF.len.2
  have c2 : w.cell? ⟨g, 2, none⟩ = some (.int .i64 (m.at_ : Nat)) := hM.cells.cell (j := 2) rfl
  have hwr : wrap64 ((m.at_ : Int) + 1) = (m.at_ : Int) + 1 := by unfold wrap64; omega
  obtain ⟨Ap, cap, rfl⟩ := own_slice hM.places
  have c13 : w.cell? ⟨g, 13, none⟩ = some (.slice Ap m.places.length cap) := hM.cells.cell (j := 13) rfl
  have t1 : ¬ (m.places.length : Int) < 8 := by omega
  clear hM hF hgo hfull
  go_enter Tryz.func37, Tryz.ntmps37
  go_wp2_with (go_at_call 58; with_reducible (refine (must_no _ _).mono ?_); rintro _ _ ⟨rfl, rfl⟩)
  exact ⟨rfl, rfl, (HM0.out.alloc (.cells #[.int .i64 17, .int .i64 (a : Nat), .int .i64 (b : Nat), .int .i64 (c : Nat), .int .i64 n, .int .u64 (k : Nat)] 77)), (Turns.of_below ((Below.refl _ _).alloc (Nat.le_refl _) (.cells #[.int .i64 17, .int .i64 (a : Nat), .int .i64 (b : Nat), .int .i64 (c : Nat), .int .i64 n, .int .u64 (k : Nat)] 77)))⟩

set_option maxRecDepth 100000 in
set_option maxHeartbeats 2000000 in
theorem jump_ret_no {w : World} {g : Nat} {cs nv pv : Value} {m : Mach} (hM : Mw w g cs nv pv m) (hF : m.Fit) (hgo : m.at_ < m.code.length) (a b c : Nat) (ha : a < 8) (n : Int) (k : Nat) (hfull : ¬ 0 < m.places.length) : Calls Tryz.prog 37 #[.pointer (some ⟨g, 0, none⟩), .agg #[.int .i64 18, .int .i64 (a : Nat), .int .i64 (b : Nat), .int .i64 (c : Nat), .int .i64 n, .int .u64 (k : Nat)]] w fun e w' => e = .panicked (trapped 3) ∧ Mw w' g cs nv pv m ∧ Turns (mOwn g nv pv) w w' := by
  have HM0 := Lib.hid hM
  have hlt := hM.lt
  have hat : m.at_ < 64 := Nat.lt_of_lt_of_le hgo hF.len.2
  have c2 : w.cell? ⟨g, 2, none⟩ = some (.int .i64 (m.at_ : Nat)) := hM.cells.cell (j := 2) rfl
  have hwr : wrap64 ((m.at_ : Int) + 1) = (m.at_ : Int) + 1 := by unfold wrap64; omega
  have hz : m.places.length = 0 := by omega
  obtain ⟨Ap, cap, hpv⟩ := own_slice hM.places
  rw [hz] at hpv
  subst hpv
  have c13 : w.cell? ⟨g, 13, none⟩ = some (.slice Ap 0 cap) := hM.cells.cell (j := 13) rfl
  clear hM hF hgo hfull hz
  go_enter Tryz.func37, Tryz.ntmps37
  go_wp2_with (go_at_call 58; with_reducible (refine (must_no _ _).mono ?_); rintro _ _ ⟨rfl, rfl⟩)
  exact ⟨rfl, rfl, (HM0.out.alloc (.cells #[.int .i64 18, .int .i64 (a : Nat), .int .i64 (b : Nat), .int .i64 (c : Nat), .int .i64 n, .int .u64 (k : Nat)] 77)), (Turns.of_below ((Below.refl _ _).alloc (Nat.le_refl _) (.cells #[.int .i64 18, .int .i64 (a : Nat), .int .i64 (b : Nat), .int .i64 (c : Nat), .int .i64 n, .int .u64 (k : Nat)] 77)))⟩

set_option maxRecDepth 100000 in
set_option maxHeartbeats 2000000 in
theorem jump_call {w : World} {g : Nat} {cs nv pv : Value} {m : Mach} (hM : Mw w g cs nv pv m) (hF : m.Fit) (hgo : m.at_ < m.code.length) (a b c : Nat) (ha : a < 8) (n : Int) (k : Nat) (hfull : m.places.length < 8) : Calls Tryz.prog 37 #[.pointer (some ⟨g, 0, none⟩), .agg #[.int .i64 17, .int .i64 (a : Nat), .int .i64 (b : Nat), .int .i64 (c : Nat), .int .i64 n, .int .u64 (k : Nat)]] w fun e w' => e = .returned (.int .i64 n) ∧ ∃ pv', Anew w pv pv' ∧ Mw w' g cs nv pv' { m with places := m.places ++ [m.at_ + 1] } ∧ Turns (mOwn g nv pv) w w' := by
  have HM0 := Lib.hid hM
  have hlt := hM.lt
  have hat : m.at_ < 64 := Nat.lt_of_lt_of_le hgo hF.len.2
  have c2 : w.cell? ⟨g, 2, none⟩ = some (.int .i64 (m.at_ : Nat)) := hM.cells.cell (j := 2) rfl
  have hwr : wrap64 ((m.at_ : Int) + 1) = (m.at_ : Int) + 1 := by unfold wrap64; omega
  obtain ⟨Ap, cap, rfl⟩ := own_slice hM.places
  have c13 : w.cell? ⟨g, 13, none⟩ = some (.slice Ap m.places.length cap) := hM.cells.cell (j := 13) rfl
  have t1 : (m.places.length : Int) < 8 := by omega
  clear hM hF hgo
  obtain ⟨i1, hq1, hz1, hsz1, hby1⟩ := info_int
  go_enter Tryz.func37, Tryz.ntmps37
  go_upto_region 14 with (go_at_call 58; with_reducible (refine (must_yes _ _).mono ?_); rintro _ _ ⟨rfl, rfl⟩)
  have HM := Lib.hid (HM0.out.alloc (.cells #[.int .i64 17, .int .i64 (a : Nat), .int .i64 (b : Nat), .int .i64 (c : Nat), .int .i64 n, .int .u64 (k : Nat)] 77))
  have HX := Lib.hid (Cells.new w 77 #[.int .i64 17, .int .i64 (a : Nat), .int .i64 (b : Nat), .int .i64 (c : Nat), .int .i64 n, .int .u64 (k : Nat)])
  have HB := Lib.hid ((Below.refl w.heap.size w).alloc (Nat.le_refl _) (.cells #[.int .i64 17, .int .i64 (a : Nat), .int .i64 (b : Nat), .int .i64 (c : Nat), .int .i64 n, .int .u64 (k : Nat)] 77))
  generalize w.alloc (.cells #[.int .i64 17, .int .i64 (a : Nat), .int .i64 (b : Nat), .int .i64 (c : Nat), .int .i64 n, .int .u64 (k : Nat)] 77) = w2 at *
  have hlt2 := HM.out.lt
  have d13 : w2.cell? ⟨g, 13, none⟩ = some (.slice Ap m.places.length cap) := HM.out.cells.cell (j := 13) rfl
  go_wp2_with (at_builtin; refine wpList_append_elem (w := w2) rfl _ _ _ rfl 0 3 i1 _ 1 8 Tryz.underlying59 hq1 hz1 hsz1 hby1 rfl (by decide) (.slice Ap m.places.length cap) m.places.length (m.places.map I) rfl HM.out.places #[.int .i64 ((m.at_ : Int) + 1)] rfl (by simp [Value.oneCell']) rfl (by omega) (by decide) (Nat.zero_le _) ?_; intro v' W4 ho hgr hat4; have HO := Lib.hid ho; have HGR := Lib.hid hgr; have HAT := Lib.hid hat4; have HC4 := Lib.hid (cells_grown hgr HM.out.places HM.out.cells (by decide)); have HX4 := Lib.hid (cells_grown hgr HM.out.places HX.out (by decide)); have e13 := HC4.out.cell (j := 13) rfl; have ef := HC4.out.fz 13; have y4 := HX4.out.cell (j := 4) rfl; obtain ⟨k', cap', rfl⟩ := own_some ho; clear ho hgr hat4)
  go_ret
  have hp := placed HM.out HO.out HGR.out
  exact ⟨rfl, _, HAT.out.imp id (fun ⟨k, hk, hl⟩ => ⟨k, hk, Nat.le_trans HB.out.size hl⟩), hp.1, turns_keep HB.out hp.2⟩

set_option maxRecDepth 100000 in
set_option maxHeartbeats 2000000 in
theorem jump_ret {w : World} {g : Nat} {cs nv pv : Value} {m : Mach} (hM : Mw w g cs nv pv m) (hF : m.Fit) (hgo : m.at_ < m.code.length) (a b c : Nat) (ha : a < 8) (n : Int) (k : Nat) {n0 : Nat} (hn0 : m.places.length = n0 + 1) : Calls Tryz.prog 37 #[.pointer (some ⟨g, 0, none⟩), .agg #[.int .i64 18, .int .i64 (a : Nat), .int .i64 (b : Nat), .int .i64 (c : Nat), .int .i64 n, .int .u64 (k : Nat)]] w fun e w' => e = .returned (.int .i64 (m.places.getLastD 0 : Nat)) ∧ ∃ pv', Anew w pv pv' ∧ Mw w' g cs nv pv' { m with places := m.places.dropLast } ∧ Turns (mOwn g nv pv) w w' := by
  have HM0 := Lib.hid hM
  have hlt := hM.lt
  have hat : m.at_ < 64 := Nat.lt_of_lt_of_le hgo hF.len.2
  have c2 : w.cell? ⟨g, 2, none⟩ = some (.int .i64 (m.at_ : Nat)) := hM.cells.cell (j := 2) rfl
  have hwr : wrap64 ((m.at_ : Int) + 1) = (m.at_ : Int) + 1 := by unfold wrap64; omega
  obtain ⟨Ap, cap, hpv⟩ := own_slice hM.places
  rw [hn0] at hpv
  subst hpv
  have HN := Lib.hid hn0
  have c13 : w.cell? ⟨g, 13, none⟩ = some (.slice Ap (n0 + 1) cap) := hM.cells.cell (j := 13) rfl
  have hrow := hM.places
  rw [hn0] at hrow
  obtain ⟨bq, hA, cb, hcap, _⟩ := own_pop hrow
  subst hA
  have hb0 : bq < w.heap.size := (hrow.lt bq rfl).2
  have hcb : w.cell? ⟨bq, n0, none⟩ = some (.int .i64 (m.places.getLastD 0 : Nat)) := by
    rw [cb, List.getElem?_map]
    have h : m.places[n0]? = some (m.places.getLastD 0) := by
      have hl : n0 < m.places.length := by omega
      rw [List.getLastD_eq_getLast?, List.getLast?_eq_getElem?, hn0]
      simp [List.getElem?_eq_getElem hl]
    rw [h]
    rfl
  obtain ⟨t1, hw2, i6, i2, i3, i4, i5⟩ := pop_ints (n0 := n0) (cap := cap) (by have h8 := hF.plen; omega) hcap
  have f13 := hM.cells.fz 13
  obtain ⟨v, hv⟩ : ∃ v, m.places.getLastD 0 = v := ⟨_, rfl⟩
  rw [hv] at hcb
  rw [hv]
  clear hM hF hgo hrow cb hn0 hv
  go_enter Tryz.func37, Tryz.ntmps37
  go_wp2_with (go_at_call 58; with_reducible (refine (must_yes _ _).mono ?_); rintro _ _ ⟨rfl, rfl⟩)
  go_ret
  first
    | (have hp := unplaced (HM0.out.alloc (.cells #[.int .i64 18, .int .i64 (a : Nat), .int .i64 (b : Nat), .int .i64 (c : Nat), .int .i64 n, .int .u64 (k : Nat)] 77)) HN.out; exact ⟨rfl, .slice (some ⟨bq, 0, none⟩) n0 cap, .inl rfl, hp.1, turns_keep ((Below.refl w.heap.size w).alloc (Nat.le_refl _) (.cells #[.int .i64 18, .int .i64 (a : Nat), .int .i64 (b : Nat), .int .i64 (c : Nat), .int .i64 n, .int .u64 (k : Nat)] 77)) hp.2⟩)
    | (have hp := unplaced HM0.out HN.out; exact ⟨rfl, .slice (some ⟨bq, 0, none⟩) n0 cap, .inl rfl, hp.1.alloc _, hp.2.alloc _⟩)

end Go.Proofs.YtjloiclbknfomaaGreatDoor
