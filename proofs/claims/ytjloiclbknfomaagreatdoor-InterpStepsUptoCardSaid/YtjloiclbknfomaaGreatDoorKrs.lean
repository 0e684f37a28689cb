/- The document's Step (contract). -/
import Derived.Test.YtjloiclbknfomaaGreatDoorKrf
import Derived.Test.YtjloiclbknfomaaGreatDoorNumRText
import Derived.Test.YtjloiclbknfomaaGreatDoorKt
import Derived.Deep.DeepCutAuto
set_option maxRecDepth 100000
namespace Go.Proofs.YtjloiclbknfomaaGreatDoor
open Go.RowKit Ieee

/-- how it ends behind an instruction, as the document says it -/
def tailM (at0 : Nat) (m : Mach) (trap : Int) (x : Ins) : Mach := if trap ≠ 0 then { m with at_ := at0, over := true, rcode := trap, rbits := 0 } else nextM m x
/-- an instruction up to its end, as the document says it: the machine, the kind, the trap -/
def headM (m : Mach) (x : Ins) : Mach × Int × Int :=
  if x.op = 1 then ({ m with regs := m.regs.set x.a.toNat x.k, at_ := m.at_ + 1 }, 0, 0)
  else if x.op ≤ 13 then ({ m with regs := m.regs.set x.a.toNat (reckonM x.op (m.reg x.b) (m.reg x.c)), at_ := m.at_ + 1 }, 0, 0)
  else if x.op = 21 then if m.chunks < 32 then ({ m with chunks := m.chunks + 1, at_ := m.at_ + 1 }, 1, 0) else (m, 0, 5)
  else if x.op = 22 then if m.pieces < 16 then ({ m with pieces := m.pieces + 1, at_ := m.at_ + 1 }, 2, 0) else (m, 0, 6)
  else ((flowM m x).1, 0, (flowM m x).2)
theorem headM_step {m : Mach} {x : Ins} (hx : m.code.getD m.at_ default = x) (h1 : 1 ≤ x.op) : stepM m = (tailM m.at_ (headM { m with done := m.done + 1 } x).1 (headM { m with done := m.done + 1 } x).2.2 x, (headM { m with done := m.done + 1 } x).2.1, toldM m x (headM { m with done := m.done + 1 } x).2.1) := by
  unfold stepM
  rw [hx]
  simp only
  unfold headM flowM doM jumpM tailM
  have h : x.op = 1 ∨ (2 ≤ x.op ∧ x.op ≤ 13) ∨ x.op = 14 ∨ x.op = 15 ∨ x.op = 16 ∨ x.op = 17 ∨ x.op = 18 ∨ x.op = 19 ∨ x.op = 20 ∨ x.op = 21 ∨ x.op = 22 ∨ x.op = 23 ∨ 24 ≤ x.op := by omega
  rcases h with h | h | h | h | h | h | h | h | h | h | h | h | h
  · simp [h]
  · have e1 : ¬ x.op = 1 := by omega
    have e2 : x.op ≤ 13 := h.2
    have e3 : ¬ x.op = 14 := by omega
    have e4 : ¬ x.op = 15 := by omega
    have e5 : ¬ x.op = 16 := by omega
    have e6 : ¬ x.op = 17 := by omega
    have e7 : ¬ x.op = 18 := by omega
    simp [e1, e2, e3, e4, e5, e6, e7]
    try rfl
  · simp [h]
  · unfold Mach.reg
    by_cases hc : fclass (m.regs.getD x.a.toNat 0) = 2 <;> simp only [h] <;> simp [-List.getD_eq_getElem?_getD, hc, toldM]
  · unfold Mach.reg
    by_cases hc : (fintR (m.regs.getD x.a.toNat 0)).2 = 0 ∧ 0 ≤ (fintR (m.regs.getD x.a.toNat 0)).1 ∧ (fintR (m.regs.getD x.a.toNat 0)).1 ≤ (m.code.length : Int) <;> simp only [h] <;> simp [-List.getD_eq_getElem?_getD, hc, toldM, endM]
  · by_cases hc : m.places.length < 8 <;> simp [h, hc, endM, toldM]
  · by_cases hc : 0 < m.places.length <;> simp [h, hc, endM, toldM]
  · by_cases hc : m.nums.length < 8 <;> simp [h, hc, endM, toldM, Mach.reg]
  · by_cases hc : 0 < m.nums.length <;> simp [h, hc, endM, toldM]
  · by_cases hc : m.chunks < 32 <;> simp [h, hc, endM, toldM]
  · by_cases hc : m.pieces < 16 <;> simp [h, hc, endM, toldM]
  · simp [h, endM, toldM]
  · have e1 : ¬ x.op = 1 := by omega
    have e2 : ¬ x.op ≤ 13 := by omega
    have e3 : ¬ x.op = 14 := by omega
    have e4 : ¬ x.op = 15 := by omega
    have e5 : ¬ x.op = 16 := by omega
    have e6 : ¬ x.op = 17 := by omega
    have e7 : ¬ x.op = 18 := by omega
    have e8 : ¬ x.op = 19 := by omega
    have e9 : ¬ x.op = 20 := by omega
    have e10 : ¬ x.op = 21 := by omega
    have e11 : ¬ x.op = 22 := by omega
    have e12 : ¬ x.op = 23 := by omega
    simp [e1, e2, e3, e4, e5, e6, e7, e8, e9, e10, e11, e12, toldM]

theorem r_trap {w : World} {g n : Nat} {c : Int} {cs nv pv : Value} {m : Mach} (h : Rw w g cs nv pv m) : Rw ((((w.setCell ⟨g, 2, none⟩ (.int .i64 (n : Nat))).setCell ⟨g, 16, none⟩ (.bool true)).setCell ⟨g, 17, none⟩ (.int .i64 c)).setCell ⟨g, 18, none⟩ (.int .u64 0)) g cs nv pv { m with at_ := n, over := true, rcode := c, rbits := 0 } ∧ Turns [g] w ((((w.setCell ⟨g, 2, none⟩ (.int .i64 (n : Nat))).setCell ⟨g, 16, none⟩ (.bool true)).setCell ⟨g, 17, none⟩ (.int .i64 c)).setCell ⟨g, 18, none⟩ (.int .u64 0)) := by
  have ht : Turns [g] w ((((w.setCell ⟨g, 2, none⟩ (.int .i64 (n : Nat))).setCell ⟨g, 16, none⟩ (.bool true)).setCell ⟨g, 17, none⟩ (.int .i64 c)).setCell ⟨g, 18, none⟩ (.int .u64 0)) := ((((Turns.refl _ _).set (.inl (by simp)) _).set (.inl (by simp)) _).set (.inl (by simp)) _).set (.inl (by simp)) _
  exact ⟨h.block ht ((((h.cells.set 2 _).set 16 _).set 17 _).set 18 _) rfl rfl rfl, ht⟩
theorem r_end {w : World} {g : Nat} {c : Int} {b : Nat} {cs nv pv : Value} {m : Mach} (h : Rw w g cs nv pv m) : Rw (((w.setCell ⟨g, 16, none⟩ (.bool true)).setCell ⟨g, 17, none⟩ (.int .i64 c)).setCell ⟨g, 18, none⟩ (.int .u64 (b : Nat))) g cs nv pv { m with over := true, rcode := c, rbits := b } ∧ Turns [g] w (((w.setCell ⟨g, 16, none⟩ (.bool true)).setCell ⟨g, 17, none⟩ (.int .i64 c)).setCell ⟨g, 18, none⟩ (.int .u64 (b : Nat))) := by
  have ht : Turns [g] w (((w.setCell ⟨g, 16, none⟩ (.bool true)).setCell ⟨g, 17, none⟩ (.int .i64 c)).setCell ⟨g, 18, none⟩ (.int .u64 (b : Nat))) := (((Turns.refl _ _).set (.inl (by simp)) _).set (.inl (by simp)) _).set (.inl (by simp)) _
  exact ⟨h.block ht (((h.cells.set 16 _).set 17 _).set 18 _) rfl rfl rfl, ht⟩
theorem rdone_stored {w : World} {g n : Nat} {v : Int} {cs nv pv : Value} {m : Mach} (h : Rw w g cs nv pv m) (hv : v = (n : Nat)) : Rw (w.setCell ⟨g, 3, none⟩ (.int .i64 v)) g cs nv pv { m with done := n } ∧ Turns [g] w (w.setCell ⟨g, 3, none⟩ (.int .i64 v)) := by
  have ht : Turns [g] w (w.setCell ⟨g, 3, none⟩ (.int .i64 v)) := (Turns.refl _ _).set (.inl (by simp)) _
  subst hv
  exact ⟨h.block ht (h.cells.set 3 _) rfl rfl rfl, ht⟩
theorem rchunks_stored {w : World} {g n : Nat} {v : Int} {cs nv pv : Value} {m : Mach} (h : Rw w g cs nv pv m) (hv : v = (n : Nat)) : Rw (w.setCell ⟨g, 14, none⟩ (.int .i64 v)) g cs nv pv { m with chunks := n } ∧ Turns [g] w (w.setCell ⟨g, 14, none⟩ (.int .i64 v)) := by
  have ht : Turns [g] w (w.setCell ⟨g, 14, none⟩ (.int .i64 v)) := (Turns.refl _ _).set (.inl (by simp)) _
  subst hv
  exact ⟨h.block ht (h.cells.set 14 _) rfl rfl rfl, ht⟩
theorem rpieces_stored {w : World} {g n : Nat} {v : Int} {cs nv pv : Value} {m : Mach} (h : Rw w g cs nv pv m) (hv : v = (n : Nat)) : Rw (w.setCell ⟨g, 15, none⟩ (.int .i64 v)) g cs nv pv { m with pieces := n } ∧ Turns [g] w (w.setCell ⟨g, 15, none⟩ (.int .i64 v)) := by
  have ht : Turns [g] w (w.setCell ⟨g, 15, none⟩ (.int .i64 v)) := (Turns.refl _ _).set (.inl (by simp)) _
  subst hv
  exact ⟨h.block ht (h.cells.set 15 _) rfl rfl rfl, ht⟩

theorem wp_seq_open {P : Program} {s t : Code} {Q : Exit → Act → World → Prop} {a : Act} {w : World} (h : ∀ K : Act → World → Prop, (∀ a w, t.wp P Q a w → K a w) → s.wp P (Exit.then K Q) a w) : (Code.seq s t).wp P Q a w := wp_seq (h _ fun _ _ x => x)
theorem flowM_same (m : Mach) (x : Ins) : (flowM m x).1.code = m.code := by
  unfold flowM
  repeat (first | rfl | split)
theorem Anew.more {w w2 : World} {v v' : Value} (h : Anew w2 v v') (hs : w.heap.size ≤ w2.heap.size) : Anew w v v' := h.imp id fun ⟨k, hk, hl⟩ => ⟨k, hk, Nat.le_trans hs hl⟩
theorem headM_code (m : Mach) (x : Ins) : (headM m x).1.code = m.code := by
  unfold headM
  have h := flowM_same m x
  repeat (first | rfl | exact h | split)

set_option maxRecDepth 100000 in
set_option maxHeartbeats 16000000 in
theorem rstep_on {w : World} {g : Nat} {cs nv pv : Value} {m : Mach} (hR : Rw w g cs nv pv m) (hF : m.Fit) (hG : m.Goes) (ho : m.over = false) {op : Int} {a b c : Nat} {n : Int} {k : Nat} (hx : m.code.getD m.at_ default = ⟨op, (a : Nat), (b : Nat), (c : Nat), n, k⟩) {MH : Mach} {kh th : Int} (hHD : headM { m with done := m.done + 1 } ⟨op, (a : Nat), (b : Nat), (c : Nat), n, k⟩ = (MH, kh, th)) :
    Calls Tryz.prog 17 #[.pointer (some ⟨g, 0, none⟩)] w fun e w' => ∃ nv' pv', e = .returned (.tuple #[.int .i64 kh, bstr (toldM m ⟨op, (a : Nat), (b : Nat), (c : Nat), n, k⟩ kh), .int .i64 0]) ∧ Anew w nv nv' ∧ Anew w pv pv' ∧ Rw w' g cs nv' pv' (tailM m.at_ MH th ⟨op, (a : Nat), (b : Nat), (c : Nat), n, k⟩) ∧ Turns (mOwn g nv pv) w w' := by
  obtain ⟨hg1, hg2⟩ := hG ho
  obtain ⟨hxe, hxo, hxk⟩ := code_get hF hg1
  rw [hx] at hxe hxo hxk
  have ha : a < 8 := by have := hxo.a.2; dsimp only at this; omega
  have hb : b < 8 := by have := hxo.b.2; dsimp only at this; omega
  have hc : c < 8 := by have := hxo.c.2; dsimp only at this; omega
  have h1op : 1 ≤ op := hxo.op.1
  have h24op : op ≤ 24 := hxo.op.2
  have HXO := Lib.hid hxo
  obtain ⟨bc, cap, rfl, hbc, hi⟩ := rcode_read hR hxe
  have h64 : m.at_ < 64 := Nat.lt_of_lt_of_le hg1 hF.len.2
  have hfu := hF.fuel
  have r16 : w.cell? ⟨g, 16, none⟩ = some (.bool m.over) := hR.cells.cell (j := 16) rfl
  rw [ho] at r16
  have i0 : (0 : Int) ≤ (m.at_ : Int) := by omega
  have i1 : (m.at_ : Int) < (m.code.length : Int) := by omega
  have hwd : wrap64 ((m.done : Int) + 1) = (m.done : Int) + 1 := by unfold wrap64; omega
  have hwa : wrap64 ((m.at_ : Int) + 1) = (m.at_ : Int) + 1 := by unfold wrap64; omega
  have c1 : w.cell? ⟨g, 1, none⟩ = some (.slice (some ⟨bc, 0, none⟩) m.code.length cap) := hR.cells.cell (j := 1) rfl
  have c2 : w.cell? ⟨g, 2, none⟩ = some (.int .i64 (m.at_ : Nat)) := hR.cells.cell (j := 2) rfl
  have hS0 : w.cell? ⟨g, 1, none⟩ = some (.slice (some ⟨bc, 0, none⟩) m.code.length cap) ∧ w.cell? ⟨g, 2, none⟩ = some (.int .i64 (m.at_ : Nat)) ∧ w.cell? ⟨bc, m.at_ * 6, none⟩ = some (.int .i64 op) ∧ w.cell? ⟨bc, m.at_ * 6 + 1, none⟩ = some (.int .i64 (a : Nat)) ∧ w.cell? ⟨bc, m.at_ * 6 + 2, none⟩ = some (.int .i64 (b : Nat)) ∧ w.cell? ⟨bc, m.at_ * 6 + 3, none⟩ = some (.int .i64 (c : Nat)) ∧ w.cell? ⟨bc, m.at_ * 6 + 4, none⟩ = some (.int .i64 n) ∧ w.cell? ⟨bc, m.at_ * 6 + 5, none⟩ = some (.int .u64 (k : Nat)) := ⟨c1, c2, hi.1, hi.2.1, hi.2.2.1, hi.2.2.2.1, hi.2.2.2.2.1, hi.2.2.2.2.2⟩
  have hSa : ∀ Z, (w.alloc Z).cell? ⟨g, 1, none⟩ = some (.slice (some ⟨bc, 0, none⟩) m.code.length cap) ∧ (w.alloc Z).cell? ⟨g, 2, none⟩ = some (.int .i64 (m.at_ : Nat)) ∧ (w.alloc Z).cell? ⟨bc, m.at_ * 6, none⟩ = some (.int .i64 op) ∧ (w.alloc Z).cell? ⟨bc, m.at_ * 6 + 1, none⟩ = some (.int .i64 (a : Nat)) ∧ (w.alloc Z).cell? ⟨bc, m.at_ * 6 + 2, none⟩ = some (.int .i64 (b : Nat)) ∧ (w.alloc Z).cell? ⟨bc, m.at_ * 6 + 3, none⟩ = some (.int .i64 (c : Nat)) ∧ (w.alloc Z).cell? ⟨bc, m.at_ * 6 + 4, none⟩ = some (.int .i64 n) ∧ (w.alloc Z).cell? ⟨bc, m.at_ * 6 + 5, none⟩ = some (.int .u64 (k : Nat)) := fun Z =>
    have q := fun (x : Addr) (v : Value) (h : w.cell? x = some v) => (World.cell?_alloc_some w x Z (by rw [h]; rfl)).trans h
    ⟨q _ _ c1, q _ _ c2, q _ _ hi.1, q _ _ hi.2.1, q _ _ hi.2.2.1, q _ _ hi.2.2.2.1, q _ _ hi.2.2.2.2.1, q _ _ hi.2.2.2.2.2⟩
  have HR0 := Lib.hid hR
  have HF := Lib.hid hF
  have HF4 : Hid (({ m with done := m.done + 1 } : Mach).Fit) := Lib.hid ⟨hF.fuel, hF.len, hF.code, hF.at_, hg2, hF.rlen, hF.regs, hF.nlen, hF.nums, hF.plen, hF.places, hF.chunks, hF.pieces⟩
  have HCL : Hid (MH.code.length = m.code.length) := Lib.hid (by have := headM_code { m with done := m.done + 1 } ⟨op, (a : Nat), (b : Nat), (c : Nat), n, k⟩; rw [hHD] at this; rw [show MH.code = m.code from this])
  have HHD := Lib.hid hHD
  obtain ⟨Mx, hMx⟩ : ∃ q : Mach, tailM m.at_ MH th ⟨op, (a : Nat), (b : Nat), (c : Nat), n, k⟩ = q := ⟨_, rfl⟩
  rw [hMx]
  have HTL := Lib.hid hMx
  have HON := Lib.hid hg1
  obtain ⟨tx, htx⟩ : ∃ tx, toldM m ⟨op, (a : Nat), (b : Nat), (c : Nat), n, k⟩ kh = tx := ⟨_, rfl⟩
  rw [htx]
  have HTX := Lib.hid htx
  clear hR hF hG hx hxe hxo hi hMx hHD htx ho hg2 hxk
  go_enter Tryz.func17, Tryz.ntmps17
  go_upto_region 3 with fail
  refine wp_region_held_drew (S := fun w' => w'.cell? ⟨g, 1, none⟩ = some (.slice (some ⟨bc, 0, none⟩) m.code.length cap) ∧ w'.cell? ⟨g, 2, none⟩ = some (.int .i64 (m.at_ : Nat)) ∧ w'.cell? ⟨bc, m.at_ * 6, none⟩ = some (.int .i64 op) ∧ w'.cell? ⟨bc, m.at_ * 6 + 1, none⟩ = some (.int .i64 (a : Nat)) ∧ w'.cell? ⟨bc, m.at_ * 6 + 2, none⟩ = some (.int .i64 (b : Nat)) ∧ w'.cell? ⟨bc, m.at_ * 6 + 3, none⟩ = some (.int .i64 (c : Nat)) ∧ w'.cell? ⟨bc, m.at_ * 6 + 4, none⟩ = some (.int .i64 n) ∧ w'.cell? ⟨bc, m.at_ * 6 + 5, none⟩ = some (.int .u64 (k : Nat))) (by kernel_rfl) hS0 (fun hS => ?_)
  refine wpAnyH_take (i := 0) (v := ?_) rfl (by kernel_rfl) (by kernel_rfl) (by kernel_rfl) (fun _ _ _ h => h) (Or.inl ⟨by rfl, ?_⟩) hS ?_
  rotate_left
  · (intro wx hSx; (try dsimp only at hSx); go_simp; (try with_reducible rfl))
  simp only [List.getElem_toArray, List.getElem_cons_zero, Act.put, List.setIfInBounds_toArray, List.set_cons_zero, List.set_cons_succ]
  refine wpAnyH_take (i := 1) (v := ?_) rfl (by kernel_rfl) (by kernel_rfl) (by kernel_rfl) (fun _ _ _ h => h) (Or.inl ⟨by rfl, ?_⟩) hS ?_
  rotate_left
  · (intro wx hSx; (try dsimp only at hSx); go_simp; (try with_reducible rfl))
  simp only [List.getElem_toArray, List.getElem_cons_succ, List.getElem_cons_zero, Act.put, List.setIfInBounds_toArray, List.set_cons_zero, List.set_cons_succ]
  refine wpAnyH_take (i := 2) (v := ?_) rfl (by kernel_rfl) (by kernel_rfl) (by kernel_rfl) (fun _ _ _ h => h) (Or.inl ⟨by rfl, ?_⟩) hS ?_
  rotate_left
  · (intro wx hSx; (try dsimp only at hSx); go_simp; (try with_reducible rfl))
  simp only [List.getElem_toArray, List.getElem_cons_succ, List.getElem_cons_zero, Act.put, List.setIfInBounds_toArray, List.set_cons_zero, List.set_cons_succ]
  refine wpAnyH_take (i := 3) (v := ?_) rfl (by kernel_rfl) (by kernel_rfl) (by kernel_rfl) (fun _ _ _ h => h) (Or.inl ⟨by rfl, ?_⟩) hS ?_
  rotate_left
  · (intro wx hSx; (try dsimp only at hSx); go_simp; (try with_reducible rfl))
  simp only [List.getElem_toArray, List.getElem_cons_succ, List.getElem_cons_zero, Act.put, List.setIfInBounds_toArray, List.set_cons_zero, List.set_cons_succ]
  refine wpAnyH_take (i := 4) (v := ?_) rfl (by kernel_rfl) (by kernel_rfl) (by kernel_rfl) (fun _ _ _ h => h) (Or.inl ⟨by rfl, ?_⟩) hS ?_
  rotate_left
  · (intro wx hSx; (try dsimp only at hSx); go_simp; (try with_reducible rfl))
  simp only [List.getElem_toArray, List.getElem_cons_succ, List.getElem_cons_zero, Act.put, List.setIfInBounds_toArray, List.set_cons_zero, List.set_cons_succ]
  refine wpAnyH_take (i := 5) (v := ?_) rfl (by kernel_rfl) (by kernel_rfl) (by kernel_rfl) (fun _ _ _ h => h) (Or.inl ⟨by rfl, ?_⟩) hS ?_
  rotate_left
  · (intro wx hSx; (try dsimp only at hSx); go_simp; (try with_reducible rfl))
  simp only [List.getElem_toArray, List.getElem_cons_succ, List.getElem_cons_zero, Act.put, List.setIfInBounds_toArray, List.set_cons_zero, List.set_cons_succ]
  refine wpAnyH_take (i := 6) (v := ?_) rfl (by kernel_rfl) (by kernel_rfl) (by kernel_rfl) (fun _ _ _ h => h) (Or.inl ⟨by rfl, ?_⟩) hS ?_
  rotate_left
  · (intro wx hSx; (try dsimp only at hSx); go_simp; (try with_reducible rfl))
  simp only [List.getElem_toArray, List.getElem_cons_succ, List.getElem_cons_zero, Act.put, List.setIfInBounds_toArray, List.set_cons_zero, List.set_cons_succ]
  refine wpAnyH_take (i := 7) (v := ?_) rfl (by kernel_rfl) (by kernel_rfl) (by kernel_rfl) (fun _ _ _ h => h) (Or.inl ⟨by rfl, ?_⟩) hS ?_
  rotate_left
  · (intro wx hSx; (try dsimp only at hSx); go_simp; (try with_reducible rfl))
  simp only [List.getElem_toArray, List.getElem_cons_succ, List.getElem_cons_zero, Act.put, List.setIfInBounds_toArray, List.set_cons_zero, List.set_cons_succ]
  refine wpAnyH_take (i := 8) (v := ?_) rfl (by kernel_rfl) (by kernel_rfl) (by kernel_rfl) (fun _ _ _ h => h) (Or.inl ⟨by rfl, ?_⟩) hS ?_
  rotate_left
  · (intro wx hSx; (try dsimp only at hSx); go_simp; (try with_reducible rfl))
  simp only [List.getElem_toArray, List.getElem_cons_succ, List.getElem_cons_zero, Act.put, List.setIfInBounds_toArray, List.set_cons_zero, List.set_cons_succ]
  refine wpAnyH_take (i := 9) (v := ?_) rfl (by kernel_rfl) (by kernel_rfl) (by kernel_rfl) (fun _ _ _ h => h) (Or.inl ⟨by rfl, ?_⟩) hS ?_
  rotate_left
  · (intro wx hSx; (try dsimp only at hSx); go_simp; (try with_reducible rfl))
  simp only [List.getElem_toArray, List.getElem_cons_succ, List.getElem_cons_zero, Act.put, List.setIfInBounds_toArray, List.set_cons_zero, List.set_cons_succ]
  refine wpAnyH_take (i := 10) (v := ?_) rfl (by kernel_rfl) (by kernel_rfl) (by kernel_rfl) (fun _ _ _ h => h) (Or.inl ⟨by rfl, ?_⟩) hS ?_
  rotate_left
  · (intro wx hSx; (try dsimp only at hSx); go_simp; (try with_reducible rfl))
  simp only [List.getElem_toArray, List.getElem_cons_succ, List.getElem_cons_zero, Act.put, List.setIfInBounds_toArray, List.set_cons_zero, List.set_cons_succ]
  refine wpAnyH_ready (rs := [11]) (by kernel_rfl) (by simp) ?_
  refine AllReadyH.cons rfl (fun K hK => ?_) AllReadyH.nil
  go_simp
  refine hK.out _ _ (by first | with_reducible exact hS | with_reducible exact hSa _ | exact hSa _) (fun hS => ?_)
  clear hK K
  try simp only [Act.put, List.setIfInBounds_toArray, List.set_cons_zero, List.set_cons_succ]
  refine wpAnyH_ready (rs := [12]) (by kernel_rfl) (by simp) ?_
  refine AllReadyH.cons rfl (fun K hK => ?_) AllReadyH.nil
  go_simp
  refine hK.out _ _ (by first | with_reducible exact hS | with_reducible exact hSa _ | exact hSa _) (fun hS => ?_)
  clear hK K
  try simp only [Act.put, List.setIfInBounds_toArray, List.set_cons_zero, List.set_cons_succ]
  refine wpAnyH_done (by kernel_rfl) ?_ _
  clear hS0 hSa hS c1 c2 r16
  try change Exit.then _ _ Exit.normal _ (w.alloc (.cells #[.int .i64 op, .int .i64 (a : Nat), .int .i64 (b : Nat), .int .i64 (c : Nat), .int .i64 n, .int .u64 (k : Nat)] 77)).drew
  have HX3 := Lib.hid (show Cells (w.alloc (.cells #[.int .i64 op, .int .i64 (a : Nat), .int .i64 (b : Nat), .int .i64 (c : Nat), .int .i64 n, .int .u64 (k : Nat)] 77)).drew w.heap.size 77 #[.int .i64 op, .int .i64 (a : Nat), .int .i64 (b : Nat), .int .i64 (c : Nat), .int .i64 n, .int .u64 (k : Nat)] from (Cells.new w _ _).drew)
  have HR3 := Lib.hid (show Rw (w.alloc (.cells #[.int .i64 op, .int .i64 (a : Nat), .int .i64 (b : Nat), .int .i64 (c : Nat), .int .i64 n, .int .u64 (k : Nat)] 77)).drew g _ nv pv m from (HR0.out.alloc _).drew)
  have HT3 := Lib.hid (show Turns (mOwn g nv pv) w (w.alloc (.cells #[.int .i64 op, .int .i64 (a : Nat), .int .i64 (b : Nat), .int .i64 (c : Nat), .int .i64 n, .int .u64 (k : Nat)] 77)).drew from ((Turns.refl _ w).alloc _).drew)
  clear HR0
  generalize (w.alloc (.cells #[.int .i64 op, .int .i64 (a : Nat), .int .i64 (b : Nat), .int .i64 (c : Nat), .int .i64 n, .int .u64 (k : Nat)] 77)).drew = w3 at *
  generalize hBx : w.heap.size = Bx at *
  clear hBx
  have r2 : w3.cell? ⟨g, 2, none⟩ = some (.int .i64 (m.at_ : Nat)) := HR3.out.cells.cell (j := 2) rfl
  have r3 : w3.cell? ⟨g, 3, none⟩ = some (.int .i64 (m.done : Nat)) := HR3.out.cells.cell (j := 3) rfl
  have r3f := HR3.out.cells.fz 3
  go_upto_region 6 with fail
  obtain ⟨hr4, ht4⟩ := rdone_stored (v := (m.done : Int) + 1) (n := m.done + 1) HR3.out (by omega)
  have hgx : g ≠ Bx := block_ne HR3.out.cells HX3.out (by decide)
  have HR := Lib.hid hr4
  have HX := Lib.hid (HX3.out.far (a := ⟨g, 3, none⟩) (Ne.symm hgx) (.int .i64 ((m.done : Int) + 1)))
  have HT := Lib.hid (HT3.out.trans (turns_g ht4))
  clear HR3 HX3 HT3 hr4 ht4 r2 r3 r3f
  generalize w3.setCell ⟨g, 3, none⟩ (.int .i64 ((m.done : Int) + 1)) = w2 at *
  have x0 : w2.cell? ⟨Bx, 0, none⟩ = some (.int .i64 op) := HX.out.cell (j := 0) rfl
  have x1 : w2.cell? ⟨Bx, 1, none⟩ = some (.int .i64 (a : Nat)) := HX.out.cell (j := 1) rfl
  have x2 : w2.cell? ⟨Bx, 2, none⟩ = some (.int .i64 (b : Nat)) := HX.out.cell (j := 2) rfl
  have x3 : w2.cell? ⟨Bx, 3, none⟩ = some (.int .i64 (c : Nat)) := HX.out.cell (j := 3) rfl
  have x4 : w2.cell? ⟨Bx, 4, none⟩ = some (.int .i64 n) := HX.out.cell (j := 4) rfl
  have x5 : w2.cell? ⟨Bx, 5, none⟩ = some (.int .u64 (k : Nat)) := HX.out.cell (j := 5) rfl
  go_upto_region 8 with fail
  go_cut [9] (fun s9 wx => s9 = .string ⟨#[]⟩ ∧ wx = w2)
  case first =>
    go_wp2
    go_meet
    exact ⟨rfl, rfl⟩
  obtain ⟨rfl, hwc⟩ := hcut
  obtain rfl : w2 = wc := hwc.symm
  clear hwc
  rename_i hKq
  refine hKq _ _ ?_
  refine wp_seq_open (fun Kb hKb => ?_)
  clear hKq
  go_cut [7, 8, 9] (fun s7 s8 s9 wx => ∃ nvx pvx, s7 = .int .i64 th ∧ s8 = .int .i64 kh ∧ s9 = bstr tx ∧ Anew w nv nvx ∧ Anew w pv pvx ∧ Rw wx g (.slice (some ⟨bc, 0, none⟩) m.code.length cap) nvx pvx MH ∧ Cells wx Bx 77 #[.int .i64 op, .int .i64 (a : Nat), .int .i64 (b : Nat), .int .i64 (c : Nat), .int .i64 n, .int .u64 (k : Nat)] ∧ Turns (mOwn g nv pv) w wx)
  case first =>
    clear HTL HCL
    by_cases hop1 : op = 1
    · as_aux_lemma =>
          subst hop1
          have hh : headM { m with done := m.done + 1 } ⟨1, (a : Nat), (b : Nat), (c : Nat), n, k⟩ = ({ m with done := m.done + 1, regs := m.regs.set ((a : Nat) : Int).toNat k, at_ := m.at_ + 1 }, 0, 0) := by unfold headM; rfl
          have e := HHD.out
          rw [hh] at e
          injection e with e1 e2
          injection e2 with e2 e3
          have htx : tx = [] := by rw [← HTX.out, ← e2]; unfold toldM; first | (rw [if_pos rfl]; done) | (rw [if_neg (by decide)]; rfl)
          subst e1 e2 e3 htx
          clear hh HHD HTX
          have dy1 : ∀ y : BW w2, y.val.cell? ⟨Bx, 1, none⟩ = some (.int .i64 (a : Nat)) := fun y => y.cell x1
          have dy5 : ∀ y : BW w2, y.val.cell? ⟨Bx, 5, none⟩ = some (.int .u64 (k : Nat)) := fun y => y.cell x5
          have j0 : (0 : Int) ≤ (a : Int) := by omega
          have j1 : (a : Int) < 8 := by omega
          go_upto_region 11 with fail
          refine wp_region_bw_tail (w := w2) 8 (by kernel_rfl) (by kernel_rfl) ?_
          simp only [List.take_succ_cons, List.take_zero, List.drop_succ_cons, List.drop_zero]
          repeat (refine wpQuiet_step (fun K hK => ?_); go_simp; first | (refine hK _ ?_; clear hK K) | (apply Exists.intro; refine ⟨fun _ => ?_, hK _ ?_⟩; (fail); clear hK K))
          refine wpQuiet_nil ?_
          intro yq
          have HRz := Lib.hid (HR.out.keep yq.below)
          have HTz := Lib.hid (HT.out.trans (Turns.of_below yq.below))
          have HXz := Lib.hid (HX.out.keep yq.below)
          clear HR HT HX dy1 dy5 x0 x1 x2 x3 x4 x5
          generalize yq.val = wy0 at *
          have rr := HRz.out.cells.cell (cells_reg _ _ nv pv a ha)
          have rrf := HRz.out.cells.fz (4 + a)
          go_upto_region 12 with fail
          obtain ⟨hs1, hs2⟩ := rreg_stored (v := k) HRz.out ha HF4.out.rlen
          have hgx3 : g ≠ Bx := block_ne HRz.out.cells HXz.out (by decide)
          have HRy := Lib.hid hs1
          have HTy := Lib.hid (HTz.out.trans (turns_g hs2))
          have HXy := Lib.hid (HXz.out.far (a := ⟨g, 4 + a, none⟩) (Ne.symm hgx3) (.int .u64 (k : Nat)))
          clear hs1 hs2 rr rrf HRz HTz HXz
          generalize wy0.setCell ⟨g, 4 + a, none⟩ (.int .u64 (k : Nat)) = wy at *
          have r2 : wy.cell? ⟨g, 2, none⟩ = some (.int .i64 (m.at_ : Nat)) := HRy.out.cells.cell (j := 2) rfl
          have r2f := HRy.out.cells.fz 2
          go_wp2
          obtain ⟨hr5, ht5⟩ := rat_stored (v := (m.at_ : Int) + 1) (n := m.at_ + 1) HRy.out (by omega)
          have hgx2 : g ≠ Bx := block_ne HRy.out.cells HXy.out (by decide)
          go_meet
          exact ⟨_, _, rfl, rfl, by first | rfl | (rw [HT2.out]; rfl), Anew.refl _ _, Anew.refl _ _, by first | exact hr5 | (rw [HRV.out]; exact hr5), HXy.out.far (a := ⟨g, 2, none⟩) (Ne.symm hgx2) _, HTy.out.trans (turns_g ht5)⟩
    have bq1 : (op == 1) = false := by rw [beq_eq_false_iff_ne]; exact hop1
    by_cases h13 : op ≤ 13
    · as_aux_lemma =>
          have h2 : 2 ≤ op := by omega
          have hh : headM { m with done := m.done + 1 } ⟨op, (a : Nat), (b : Nat), (c : Nat), n, k⟩ = ({ m with done := m.done + 1, regs := m.regs.set ((a : Nat) : Int).toNat (reckonM op (m.regs.getD b 0) (m.regs.getD c 0)), at_ := m.at_ + 1 }, 0, 0) := by unfold headM; rw [if_neg hop1, if_pos h13]; rfl
          have e := HHD.out
          rw [hh] at e
          injection e with e1 e2
          injection e2 with e2 e3
          have htx : tx = [] := by rw [← HTX.out, ← e2]; unfold toldM; first | (rw [if_pos rfl]; done) | (rw [if_neg (by decide)]; rfl)
          subst e1 e2 e3 htx
          clear hh HHD HTX
          clear hop1
          have dy0 : ∀ y : BW w2, y.val.cell? ⟨Bx, 0, none⟩ = some (.int .i64 op) := fun y => y.cell x0
          have dy1 : ∀ y : BW w2, y.val.cell? ⟨Bx, 1, none⟩ = some (.int .i64 (a : Nat)) := fun y => y.cell x1
          have dy2 : ∀ y : BW w2, y.val.cell? ⟨Bx, 2, none⟩ = some (.int .i64 (b : Nat)) := fun y => y.cell x2
          have dy3 : ∀ y : BW w2, y.val.cell? ⟨Bx, 3, none⟩ = some (.int .i64 (c : Nat)) := fun y => y.cell x3
          have db : ∀ y : BW w2, y.val.cell? ⟨g, 4 + b, none⟩ = some (.int .u64 (m.regs.getD b 0 : Nat)) := fun y => (HR.out.keep y.below).cells.cell (cells_reg _ _ nv pv b hb)
          have dc : ∀ y : BW w2, y.val.cell? ⟨g, 4 + c, none⟩ = some (.int .u64 (m.regs.getD c 0 : Nat)) := fun y => (HR.out.keep y.below).cells.cell (cells_reg _ _ nv pv c hc)
          have kc := fun W => rreckons_any h2 h13 (can_reg HF.out b hb) (can_reg HF.out c hc) W
          obtain ⟨rv, hrv⟩ : ∃ q, reckonM op (m.regs.getD b 0) (m.regs.getD c 0) = q := ⟨_, rfl⟩
          rw [hrv] at kc
          have HRV := Lib.hid hrv
          clear hrv
          generalize m.regs.getD b 0 = rb at *
          generalize m.regs.getD c 0 = rc at *
          have KC := Lib.hid kc
          clear kc
          have j0 : (0 : Int) ≤ (a : Int) := by omega
          have j1 : (a : Int) < 8 := by omega
          have j2 : (0 : Int) ≤ (b : Int) := by omega
          have j3 : (b : Int) < 8 := by omega
          have j4 : (0 : Int) ≤ (c : Int) := by omega
          have j5 : (c : Int) < 8 := by omega
          go_upto_region 14 with fail
          refine wp_region_bw_tail (w := w2) 23 (by kernel_rfl) (by kernel_rfl) ?_
          simp only [List.take_succ_cons, List.take_zero, List.drop_succ_cons, List.drop_zero]
          repeat (refine wpQuiet_step (fun K hK => ?_); go_simp; first | (refine hK _ ?_; clear hK K) | (apply Exists.intro; refine ⟨fun _ => ?_, hK _ ?_⟩; (go_at_call 31; with_reducible exact Calls.quiet_bw (KC.out _)); clear hK K))
          refine wpQuiet_nil ?_
          intro yq
          have HRz := Lib.hid (HR.out.keep yq.below)
          have HTz := Lib.hid (HT.out.trans (Turns.of_below yq.below))
          have HXz := Lib.hid (HX.out.keep yq.below)
          clear HR HT HX dy0 dy1 dy2 dy3 db dc KC x0 x1 x2 x3 x4 x5
          generalize yq.val = wy0 at *
          have rr := HRz.out.cells.cell (cells_reg _ _ nv pv a ha)
          have rrf := HRz.out.cells.fz (4 + a)
          go_upto_region 15 with fail
          obtain ⟨hs1, hs2⟩ := rreg_stored (v := rv) HRz.out ha HF4.out.rlen
          have hgx3 : g ≠ Bx := block_ne HRz.out.cells HXz.out (by decide)
          have HRy := Lib.hid hs1
          have HTy := Lib.hid (HTz.out.trans (turns_g hs2))
          have HXy := Lib.hid (HXz.out.far (a := ⟨g, 4 + a, none⟩) (Ne.symm hgx3) (.int .u64 (rv : Nat)))
          clear hs1 hs2 rr rrf HRz HTz HXz
          generalize wy0.setCell ⟨g, 4 + a, none⟩ (.int .u64 (rv : Nat)) = wy at *
          have r2 : wy.cell? ⟨g, 2, none⟩ = some (.int .i64 (m.at_ : Nat)) := HRy.out.cells.cell (j := 2) rfl
          have r2f := HRy.out.cells.fz 2
          go_wp2
          obtain ⟨hr5, ht5⟩ := rat_stored (v := (m.at_ : Int) + 1) (n := m.at_ + 1) HRy.out (by omega)
          have hgx2 : g ≠ Bx := block_ne HRy.out.cells HXy.out (by decide)
          go_meet
          exact ⟨_, _, rfl, rfl, by first | rfl | (rw [HT2.out]; rfl), Anew.refl _ _, Anew.refl _ _, by first | exact hr5 | (rw [HRV.out]; exact hr5), HXy.out.far (a := ⟨g, 2, none⟩) (Ne.symm hgx2) _, HTy.out.trans (turns_g ht5)⟩
    have h14 : 14 ≤ op := by omega
    by_cases hop21 : op = 21
    · as_aux_lemma =>
          subst hop21
          by_cases hfull : m.chunks < 32
          · as_aux_lemma =>
                have hh : headM { m with done := m.done + 1 } ⟨21, (a : Nat), (b : Nat), (c : Nat), n, k⟩ = ({ m with done := m.done + 1, chunks := m.chunks + 1, at_ := m.at_ + 1 }, 1, 0) := by unfold headM; rw [if_neg (by simp), if_neg (by simp), if_pos rfl, if_pos hfull]
                have e := HHD.out
                rw [hh] at e
                injection e with e1 e2
                injection e2 with e2 e3
                have htx : tx = ftext (m.regs.getD a 0) := by rw [← HTX.out, ← e2]; unfold toldM; first | (rw [if_pos rfl]; done) | (rw [if_neg (by decide)]; rfl)
                subst e1 e2 e3 htx
                clear hh HHD HTX
                have rq : w2.cell? ⟨g, 14, none⟩ = some (.int .i64 (m.chunks : Nat)) := HR.out.cells.cell (j := 14) rfl
                have rqf := HR.out.cells.fz 14
                have bq : (((m.chunks : Nat) : Int) == 32) = false := by rw [beq_eq_false_iff_ne]; omega
                have hwc : wrap64 ((m.chunks : Int) + 1) = (m.chunks : Int) + 1 := by unfold wrap64; omega
                have kt := fun W => rtext_any (can_reg HF.out a ha).1 W
                obtain ⟨txx, htx⟩ : ∃ tx, ftext (m.regs.getD a 0) = tx := ⟨_, rfl⟩
                rw [htx] at kt
                have HT2 := Lib.hid htx
                have KT := Lib.hid kt
                clear kt htx hfull hop1
                go_upto_region 23 with fail
                obtain ⟨hs1, hs2⟩ := rchunks_stored (v := (m.chunks : Int) + 1) (n := m.chunks + 1) HR.out (by omega)
                have hgx3 : g ≠ Bx := block_ne HR.out.cells HX.out (by decide)
                have HRz := Lib.hid hs1
                have HTz := Lib.hid (HT.out.trans (turns_g hs2))
                have HXz := Lib.hid (HX.out.far (a := ⟨g, 14, none⟩) (Ne.symm hgx3) (.int .i64 ((m.chunks : Int) + 1)))
                clear hs1 hs2 HR HT HX rq rqf x0 x1 x2 x3 x4 x5
                generalize w2.setCell ⟨g, 14, none⟩ (.int .i64 ((m.chunks : Int) + 1)) = wy0 at *
                have dy1 : ∀ y : BW wy0, y.val.cell? ⟨Bx, 1, none⟩ = some (.int .i64 (a : Nat)) := fun y => (HXz.out.keep y.below).cell (j := 1) rfl
                have da : ∀ y : BW wy0, y.val.cell? ⟨g, 4 + a, none⟩ = some (.int .u64 (m.regs.getD a 0 : Nat)) := fun y => (HRz.out.keep y.below).cells.cell (cells_reg _ _ nv pv a ha)
                generalize m.regs.getD a 0 = rv at *
                have j0 : (0 : Int) ≤ (a : Int) := by omega
                have j1 : (a : Int) < 8 := by omega
                refine wp_region_bw (w := wy0) (by kernel_rfl) (by kernel_rfl) ?_
                repeat (refine wpQuiet_step (fun K hK => ?_); go_simp; first | (refine hK _ ?_; clear hK K) | (apply Exists.intro; refine ⟨fun _ => ?_, hK _ ?_⟩; (go_at_call 32; with_reducible exact Calls.quiet_bw (KT.out _)); clear hK K))
                refine wpQuiet_nil ?_
                intro yq
                have HRy := Lib.hid (HRz.out.keep yq.below)
                have HTy := Lib.hid (HTz.out.trans (Turns.of_below yq.below))
                have HXy := Lib.hid (HXz.out.keep yq.below)
                clear HRz HTz HXz dy1 da KT
                generalize yq.val = wy at *
                have r2 : wy.cell? ⟨g, 2, none⟩ = some (.int .i64 (m.at_ : Nat)) := HRy.out.cells.cell (j := 2) rfl
                have r2f := HRy.out.cells.fz 2
                go_wp2
                obtain ⟨hr5, ht5⟩ := rat_stored (v := (m.at_ : Int) + 1) (n := m.at_ + 1) HRy.out (by omega)
                have hgx2 : g ≠ Bx := block_ne HRy.out.cells HXy.out (by decide)
                go_meet
                exact ⟨_, _, rfl, rfl, by first | rfl | (rw [HT2.out]; rfl), Anew.refl _ _, Anew.refl _ _, by first | exact hr5 | (rw [HRV.out]; exact hr5), HXy.out.far (a := ⟨g, 2, none⟩) (Ne.symm hgx2) _, HTy.out.trans (turns_g ht5)⟩
          · as_aux_lemma =>
                have hf2 : m.chunks = 32 := by have := HF.out.chunks; omega
                have hh : headM { m with done := m.done + 1 } ⟨21, (a : Nat), (b : Nat), (c : Nat), n, k⟩ = ({ m with done := m.done + 1 }, 0, 5) := by unfold headM; rw [if_neg (by simp), if_neg (by simp), if_pos rfl, if_neg hfull]
                have e := HHD.out
                rw [hh] at e
                injection e with e1 e2
                injection e2 with e2 e3
                have htx : tx = [] := by rw [← HTX.out, ← e2]; unfold toldM; first | (rw [if_pos rfl]; done) | (rw [if_neg (by decide)]; rfl)
                subst e1 e2 e3 htx
                clear hh HHD HTX
                have rq : w2.cell? ⟨g, 14, none⟩ = some (.int .i64 (m.chunks : Nat)) := HR.out.cells.cell (j := 14) rfl
                rw [hf2] at rq
                clear hf2 hfull hop1
                go_wp2
                go_meet
                exact ⟨_, _, rfl, rfl, rfl, Anew.refl _ _, Anew.refl _ _, HR.out, HX.out, HT.out⟩
    have bq21 : (op == 21) = false := by rw [beq_eq_false_iff_ne]; exact hop21
    by_cases hop22 : op = 22
    · as_aux_lemma =>
          subst hop22
          by_cases hfull : m.pieces < 16
          · as_aux_lemma =>
                have hh : headM { m with done := m.done + 1 } ⟨22, (a : Nat), (b : Nat), (c : Nat), n, k⟩ = ({ m with done := m.done + 1, pieces := m.pieces + 1, at_ := m.at_ + 1 }, 2, 0) := by unfold headM; rw [if_neg (by simp), if_neg (by simp), if_neg (by simp), if_pos rfl, if_pos hfull]
                have e := HHD.out
                rw [hh] at e
                injection e with e1 e2
                injection e2 with e2 e3
                have htx : tx = ftext (m.regs.getD a 0) := by rw [← HTX.out, ← e2]; unfold toldM; first | (rw [if_pos rfl]; done) | (rw [if_neg (by decide)]; rfl)
                subst e1 e2 e3 htx
                clear hh HHD HTX
                have rq : w2.cell? ⟨g, 15, none⟩ = some (.int .i64 (m.pieces : Nat)) := HR.out.cells.cell (j := 15) rfl
                have rqf := HR.out.cells.fz 15
                have bq : (((m.pieces : Nat) : Int) == 16) = false := by rw [beq_eq_false_iff_ne]; omega
                have hwc : wrap64 ((m.pieces : Int) + 1) = (m.pieces : Int) + 1 := by unfold wrap64; omega
                have kt := fun W => rtext_any (can_reg HF.out a ha).1 W
                obtain ⟨txx, htx⟩ : ∃ tx, ftext (m.regs.getD a 0) = tx := ⟨_, rfl⟩
                rw [htx] at kt
                have HT2 := Lib.hid htx
                have KT := Lib.hid kt
                clear kt htx hfull hop1
                go_upto_region 28 with fail
                obtain ⟨hs1, hs2⟩ := rpieces_stored (v := (m.pieces : Int) + 1) (n := m.pieces + 1) HR.out (by omega)
                have hgx3 : g ≠ Bx := block_ne HR.out.cells HX.out (by decide)
                have HRz := Lib.hid hs1
                have HTz := Lib.hid (HT.out.trans (turns_g hs2))
                have HXz := Lib.hid (HX.out.far (a := ⟨g, 15, none⟩) (Ne.symm hgx3) (.int .i64 ((m.pieces : Int) + 1)))
                clear hs1 hs2 HR HT HX rq rqf x0 x1 x2 x3 x4 x5
                generalize w2.setCell ⟨g, 15, none⟩ (.int .i64 ((m.pieces : Int) + 1)) = wy0 at *
                have dy1 : ∀ y : BW wy0, y.val.cell? ⟨Bx, 1, none⟩ = some (.int .i64 (a : Nat)) := fun y => (HXz.out.keep y.below).cell (j := 1) rfl
                have da : ∀ y : BW wy0, y.val.cell? ⟨g, 4 + a, none⟩ = some (.int .u64 (m.regs.getD a 0 : Nat)) := fun y => (HRz.out.keep y.below).cells.cell (cells_reg _ _ nv pv a ha)
                generalize m.regs.getD a 0 = rv at *
                have j0 : (0 : Int) ≤ (a : Int) := by omega
                have j1 : (a : Int) < 8 := by omega
                refine wp_region_bw (w := wy0) (by kernel_rfl) (by kernel_rfl) ?_
                repeat (refine wpQuiet_step (fun K hK => ?_); go_simp; first | (refine hK _ ?_; clear hK K) | (apply Exists.intro; refine ⟨fun _ => ?_, hK _ ?_⟩; (go_at_call 32; with_reducible exact Calls.quiet_bw (KT.out _)); clear hK K))
                refine wpQuiet_nil ?_
                intro yq
                have HRy := Lib.hid (HRz.out.keep yq.below)
                have HTy := Lib.hid (HTz.out.trans (Turns.of_below yq.below))
                have HXy := Lib.hid (HXz.out.keep yq.below)
                clear HRz HTz HXz dy1 da KT
                generalize yq.val = wy at *
                have r2 : wy.cell? ⟨g, 2, none⟩ = some (.int .i64 (m.at_ : Nat)) := HRy.out.cells.cell (j := 2) rfl
                have r2f := HRy.out.cells.fz 2
                go_wp2
                obtain ⟨hr5, ht5⟩ := rat_stored (v := (m.at_ : Int) + 1) (n := m.at_ + 1) HRy.out (by omega)
                have hgx2 : g ≠ Bx := block_ne HRy.out.cells HXy.out (by decide)
                go_meet
                exact ⟨_, _, rfl, rfl, by first | rfl | (rw [HT2.out]; rfl), Anew.refl _ _, Anew.refl _ _, by first | exact hr5 | (rw [HRV.out]; exact hr5), HXy.out.far (a := ⟨g, 2, none⟩) (Ne.symm hgx2) _, HTy.out.trans (turns_g ht5)⟩
          · as_aux_lemma =>
                have hf2 : m.pieces = 16 := by have := HF.out.pieces; omega
                have hh : headM { m with done := m.done + 1 } ⟨22, (a : Nat), (b : Nat), (c : Nat), n, k⟩ = ({ m with done := m.done + 1 }, 0, 6) := by unfold headM; rw [if_neg (by simp), if_neg (by simp), if_neg (by simp), if_pos rfl, if_neg hfull]
                have e := HHD.out
                rw [hh] at e
                injection e with e1 e2
                injection e2 with e2 e3
                have htx : tx = [] := by rw [← HTX.out, ← e2]; unfold toldM; first | (rw [if_pos rfl]; done) | (rw [if_neg (by decide)]; rfl)
                subst e1 e2 e3 htx
                clear hh HHD HTX
                have rq : w2.cell? ⟨g, 15, none⟩ = some (.int .i64 (m.pieces : Nat)) := HR.out.cells.cell (j := 15) rfl
                rw [hf2] at rq
                clear hf2 hfull hop1
                go_wp2
                go_meet
                exact ⟨_, _, rfl, rfl, rfl, Anew.refl _ _, Anew.refl _ _, HR.out, HX.out, HT.out⟩
    have bq22 : (op == 22) = false := by rw [beq_eq_false_iff_ne]; exact hop22
    have hh : headM { m with done := m.done + 1 } ⟨op, (a : Nat), (b : Nat), (c : Nat), n, k⟩ = ((flowM { m with done := m.done + 1 } ⟨op, (a : Nat), (b : Nat), (c : Nat), n, k⟩).1, 0, (flowM { m with done := m.done + 1 } ⟨op, (a : Nat), (b : Nat), (c : Nat), n, k⟩).2) := by unfold headM; rw [if_neg hop1, if_neg h13, if_neg hop21, if_neg hop22]
    have kf := rflow_any HR.out HF4.out (show m.at_ < m.code.length from HON.out) HXO.out h14 hop21 hop22
    unfold xval at kf
    have e := HHD.out
    rw [hh] at e
    injection e with e1 e2
    injection e2 with e2 e3
    have htx : tx = [] := by rw [← HTX.out, ← e2]; unfold toldM; rw [if_pos rfl]
    rw [e1, e3] at kf
    subst e2 htx
    have KF := Lib.hid kf
    have hb13 : decide (op ≤ 13) = false := decide_eq_false h13
    clear kf hh HHD HTX e1 e3 hop1 hop21 hop22 h14
    go_wp2_with (go_at_call 33; go_loud (with_reducible (refine KF.out.mono ?_)); go_loud (rintro _ w5 ⟨nv5, pv5, rfl, ha1, ha2, hr5, ht5⟩); have HAN := Lib.hid (And.intro (Anew.more ha1 HT.out.size) (Anew.more ha2 HT.out.size)); have HTm := Lib.hid (HT.out.trans ht5); have HRm0 := Lib.hid hr5; have HXm := Lib.hid (HX.out.turns ht5 (rOwn_not HR.out HX.out (by decide) (by decide) (by decide))); clear ha1 ha2 hr5 ht5)
    go_meet
    exact ⟨_, _, rfl, rfl, rfl, HAN.out.1, HAN.out.2, HRm0.out, HXm.out, HTm.out⟩
  case rest =>
    obtain ⟨nvx, pvx, rfl, rfl, rfl, ha1, ha2, hrm, hxm, htm⟩ := hcut
    have HAN := Lib.hid (And.intro ha1 ha2)
    have HRm := Lib.hid hrm
    have HXm := Lib.hid hxm
    have HTm := Lib.hid htm
    clear ha1 ha2 hrm hxm htm HR HX HT x0 x1 x2 x3 x4 x5 HHD HTX
    generalize MH = m1 at *
    generalize wc = wz at *
    by_cases htz : th = 0
    · as_aux_lemma =>
          subst htz
          have r2 : wz.cell? ⟨g, 2, none⟩ = some (.int .i64 (m1.at_ : Nat)) := HRm.out.cells.cell (j := 2) rfl
          have r2f := HRm.out.cells.fz 2
          have r3 : wz.cell? ⟨g, 3, none⟩ = some (.int .i64 (m1.done : Nat)) := HRm.out.cells.cell (j := 3) rfl
          have r3f := HRm.out.cells.fz 3
          have r16 : wz.cell? ⟨g, 16, none⟩ = some (.bool m1.over) := HRm.out.cells.cell (j := 16) rfl
          have r16f := HRm.out.cells.fz 16
          have r17 : wz.cell? ⟨g, 17, none⟩ = some (.int .i64 m1.rcode) := HRm.out.cells.cell (j := 17) rfl
          have r17f := HRm.out.cells.fz 17
          have r18 : wz.cell? ⟨g, 18, none⟩ = some (.int .u64 (m1.rbits : Nat)) := HRm.out.cells.cell (j := 18) rfl
          have r18f := HRm.out.cells.fz 18
          have r0 : wz.cell? ⟨g, 0, none⟩ = some (.int .i64 (m1.fuel : Nat)) := HRm.out.cells.cell (j := 0) rfl
          have r0f := HRm.out.cells.fz 0
          have r1 : wz.cell? ⟨g, 1, none⟩ = some (.slice (some ⟨bc, 0, none⟩) m.code.length cap) := HRm.out.cells.cell (j := 1) rfl
          have r4 : wz.cell? ⟨g, 4, none⟩ = some (.int .u64 (m1.regs.getD 0 0 : Nat)) := HRm.out.cells.cell (j := 4) rfl
          have xx0 : wz.cell? ⟨Bx, 0, none⟩ = some (.int .i64 op) := HXm.out.cell (j := 0) rfl
          have hway : (op : Int) = 24 ∨ ((op : Int) ≠ 24 ∧ m1.at_ = m.code.length) ∨ ((op : Int) ≠ 24 ∧ m1.at_ ≠ m.code.length ∧ m1.done = m1.fuel) ∨ ((op : Int) ≠ 24 ∧ m1.at_ ≠ m.code.length ∧ m1.done ≠ m1.fuel) := by omega
          have hcl := HCL.out
          rcases hway with h | ⟨h, h2⟩ | ⟨h, h2, h3⟩ | ⟨h, h2, h3⟩
          · as_aux_lemma =>
                subst h
                have ht : tailM m.at_ m1 0 ⟨24, (a : Nat), (b : Nat), (c : Nat), n, k⟩ = { m1 with over := true, rcode := 0, rbits := m1.regs.getD 0 0 } := by unfold tailM nextM; rw [if_neg (by simp), if_pos (.inl rfl)]; rfl
                rw [ht] at HTL
                clear ht
                go_upto_region 34 with fail
                go_quiet (fail)
                have HRq := Lib.hid (HRm.out.drewN nq)
                have HTq := Lib.hid (HTm.out.drewN nq)
                clear HRm HTm HXm r0 r0f r1 r2 r2f r3 r3f r4 r16 r16f r17 r17f r18 r18f xx0
                generalize wz.drewN nq = wq at *
                have r16 : wq.cell? ⟨g, 16, none⟩ = some (.bool m1.over) := HRq.out.cells.cell (j := 16) rfl
                have r16f := HRq.out.cells.fz 16
                have r17 : wq.cell? ⟨g, 17, none⟩ = some (.int .i64 m1.rcode) := HRq.out.cells.cell (j := 17) rfl
                have r17f := HRq.out.cells.fz 17
                have r18 : wq.cell? ⟨g, 18, none⟩ = some (.int .u64 (m1.rbits : Nat)) := HRq.out.cells.cell (j := 18) rfl
                have r18f := HRq.out.cells.fz 18
                have r4 : wq.cell? ⟨g, 4, none⟩ = some (.int .u64 (m1.regs.getD 0 0 : Nat)) := HRq.out.cells.cell (j := 4) rfl
                go_wp2
                go_ret3
                have hp := r_end (c := 0) (b := m1.regs.getD 0 0) HRq.out
                first | exact ⟨_, _, rfl, HAN.out.1, HAN.out.2, by rw [← HTL.out]; exact hp.1, HTq.out.trans (turns_g hp.2)⟩ | exact ⟨rfl, _, HAN.out.1, _, HAN.out.2, by rw [← HTL.out]; exact hp.1, HTq.out.trans (turns_g hp.2)⟩
          · as_aux_lemma =>
                have ht : tailM m.at_ m1 0 ⟨op, (a : Nat), (b : Nat), (c : Nat), n, k⟩ = { m1 with over := true, rcode := 0, rbits := m1.regs.getD 0 0 } := by unfold tailM nextM; rw [if_neg (by simp), if_pos (.inr (h2.trans hcl.symm))]; rfl
                rw [ht] at HTL
                clear ht
                have b0 : (op == 24) = false := by rw [beq_eq_false_iff_ne]; exact h
                have b1 : (((m1.at_ : Nat) : Int) == (m.code.length : Int)) = true := by rw [beq_iff_eq]; omega
                go_upto_region 34 with fail
                go_quiet (fail)
                have HRq := Lib.hid (HRm.out.drewN nq)
                have HTq := Lib.hid (HTm.out.drewN nq)
                clear HRm HTm HXm r0 r0f r1 r2 r2f r3 r3f r4 r16 r16f r17 r17f r18 r18f xx0
                generalize wz.drewN nq = wq at *
                have r16 : wq.cell? ⟨g, 16, none⟩ = some (.bool m1.over) := HRq.out.cells.cell (j := 16) rfl
                have r16f := HRq.out.cells.fz 16
                have r17 : wq.cell? ⟨g, 17, none⟩ = some (.int .i64 m1.rcode) := HRq.out.cells.cell (j := 17) rfl
                have r17f := HRq.out.cells.fz 17
                have r18 : wq.cell? ⟨g, 18, none⟩ = some (.int .u64 (m1.rbits : Nat)) := HRq.out.cells.cell (j := 18) rfl
                have r18f := HRq.out.cells.fz 18
                have r4 : wq.cell? ⟨g, 4, none⟩ = some (.int .u64 (m1.regs.getD 0 0 : Nat)) := HRq.out.cells.cell (j := 4) rfl
                go_wp2
                go_ret3
                have hp := r_end (c := 0) (b := m1.regs.getD 0 0) HRq.out
                first | exact ⟨_, _, rfl, HAN.out.1, HAN.out.2, by rw [← HTL.out]; exact hp.1, HTq.out.trans (turns_g hp.2)⟩ | exact ⟨rfl, _, HAN.out.1, _, HAN.out.2, by rw [← HTL.out]; exact hp.1, HTq.out.trans (turns_g hp.2)⟩
          · as_aux_lemma =>
                have ht : tailM m.at_ m1 0 ⟨op, (a : Nat), (b : Nat), (c : Nat), n, k⟩ = { m1 with over := true, rcode := 1, rbits := 0 } := by unfold tailM nextM; rw [if_neg (by simp), if_neg (by rw [hcl]; exact fun e => e.elim h h2), if_pos h3]; rfl
                rw [ht] at HTL
                clear ht
                have b0 : (op == 24) = false := by rw [beq_eq_false_iff_ne]; exact h
                have b1 : (((m1.at_ : Nat) : Int) == (m.code.length : Int)) = false := by rw [beq_eq_false_iff_ne]; omega
                go_upto_region 34 with fail
                go_quiet (fail)
                have HRq := Lib.hid (HRm.out.drewN nq)
                have HTq := Lib.hid (HTm.out.drewN nq)
                clear HRm HTm HXm r0 r0f r1 r2 r2f r3 r3f r4 r16 r16f r17 r17f r18 r18f xx0
                generalize wz.drewN nq = wq at *
                have r16 : wq.cell? ⟨g, 16, none⟩ = some (.bool m1.over) := HRq.out.cells.cell (j := 16) rfl
                have r16f := HRq.out.cells.fz 16
                have r17 : wq.cell? ⟨g, 17, none⟩ = some (.int .i64 m1.rcode) := HRq.out.cells.cell (j := 17) rfl
                have r17f := HRq.out.cells.fz 17
                have r18 : wq.cell? ⟨g, 18, none⟩ = some (.int .u64 (m1.rbits : Nat)) := HRq.out.cells.cell (j := 18) rfl
                have r18f := HRq.out.cells.fz 18
                have r4 : wq.cell? ⟨g, 4, none⟩ = some (.int .u64 (m1.regs.getD 0 0 : Nat)) := HRq.out.cells.cell (j := 4) rfl
                have b2 : (((m1.done : Nat) : Int) == ((m1.fuel : Nat) : Int)) = true := by rw [beq_iff_eq]; omega
                have r3 : wq.cell? ⟨g, 3, none⟩ = some (.int .i64 (m1.done : Nat)) := HRq.out.cells.cell (j := 3) rfl
                have r3f := HRq.out.cells.fz 3
                have r0 : wq.cell? ⟨g, 0, none⟩ = some (.int .i64 (m1.fuel : Nat)) := HRq.out.cells.cell (j := 0) rfl
                have r0f := HRq.out.cells.fz 0
                go_upto_region 37 with fail
                go_quiet (fail)
                have HRu := Lib.hid (HRq.out.drewN nq)
                have HTu := Lib.hid (HTq.out.drewN nq)
                clear HRq HTq r0 r0f r3 r3f r4 r16 r16f r17 r17f r18 r18f
                generalize wq.drewN nq = wu at *
                have r16 : wu.cell? ⟨g, 16, none⟩ = some (.bool m1.over) := HRu.out.cells.cell (j := 16) rfl
                have r16f := HRu.out.cells.fz 16
                have r17 : wu.cell? ⟨g, 17, none⟩ = some (.int .i64 m1.rcode) := HRu.out.cells.cell (j := 17) rfl
                have r17f := HRu.out.cells.fz 17
                have r18 : wu.cell? ⟨g, 18, none⟩ = some (.int .u64 (m1.rbits : Nat)) := HRu.out.cells.cell (j := 18) rfl
                have r18f := HRu.out.cells.fz 18
                go_wp2
                go_ret3
                have hp := r_end (c := 1) (b := 0) HRu.out
                first | exact ⟨_, _, rfl, HAN.out.1, HAN.out.2, by rw [← HTL.out]; exact hp.1, HTu.out.trans (turns_g hp.2)⟩ | exact ⟨rfl, _, HAN.out.1, _, HAN.out.2, by rw [← HTL.out]; exact hp.1, HTu.out.trans (turns_g hp.2)⟩
          · as_aux_lemma =>
                have ht : tailM m.at_ m1 0 ⟨op, (a : Nat), (b : Nat), (c : Nat), n, k⟩ = m1 := by unfold tailM nextM; rw [if_neg (by simp), if_neg (by rw [hcl]; exact fun e => e.elim h h2), if_neg h3]
                rw [ht] at HTL
                clear ht
                have b0 : (op == 24) = false := by rw [beq_eq_false_iff_ne]; exact h
                have b1 : (((m1.at_ : Nat) : Int) == (m.code.length : Int)) = false := by rw [beq_eq_false_iff_ne]; omega
                go_upto_region 34 with fail
                go_quiet (fail)
                have HRq := Lib.hid (HRm.out.drewN nq)
                have HTq := Lib.hid (HTm.out.drewN nq)
                clear HRm HTm HXm r0 r0f r1 r2 r2f r3 r3f r4 r16 r16f r17 r17f r18 r18f xx0
                generalize wz.drewN nq = wq at *
                have r16 : wq.cell? ⟨g, 16, none⟩ = some (.bool m1.over) := HRq.out.cells.cell (j := 16) rfl
                have r16f := HRq.out.cells.fz 16
                have r17 : wq.cell? ⟨g, 17, none⟩ = some (.int .i64 m1.rcode) := HRq.out.cells.cell (j := 17) rfl
                have r17f := HRq.out.cells.fz 17
                have r18 : wq.cell? ⟨g, 18, none⟩ = some (.int .u64 (m1.rbits : Nat)) := HRq.out.cells.cell (j := 18) rfl
                have r18f := HRq.out.cells.fz 18
                have r4 : wq.cell? ⟨g, 4, none⟩ = some (.int .u64 (m1.regs.getD 0 0 : Nat)) := HRq.out.cells.cell (j := 4) rfl
                have b2 : (((m1.done : Nat) : Int) == ((m1.fuel : Nat) : Int)) = false := by rw [beq_eq_false_iff_ne]; omega
                have r3 : wq.cell? ⟨g, 3, none⟩ = some (.int .i64 (m1.done : Nat)) := HRq.out.cells.cell (j := 3) rfl
                have r3f := HRq.out.cells.fz 3
                have r0 : wq.cell? ⟨g, 0, none⟩ = some (.int .i64 (m1.fuel : Nat)) := HRq.out.cells.cell (j := 0) rfl
                have r0f := HRq.out.cells.fz 0
                go_upto_region 37 with fail
                go_quiet (fail)
                have HRu := Lib.hid (HRq.out.drewN nq)
                have HTu := Lib.hid (HTq.out.drewN nq)
                clear HRq HTq r0 r0f r3 r3f r4 r16 r16f r17 r17f r18 r18f
                generalize wq.drewN nq = wu at *
                have r16 : wu.cell? ⟨g, 16, none⟩ = some (.bool m1.over) := HRu.out.cells.cell (j := 16) rfl
                have r16f := HRu.out.cells.fz 16
                have r17 : wu.cell? ⟨g, 17, none⟩ = some (.int .i64 m1.rcode) := HRu.out.cells.cell (j := 17) rfl
                have r17f := HRu.out.cells.fz 17
                have r18 : wu.cell? ⟨g, 18, none⟩ = some (.int .u64 (m1.rbits : Nat)) := HRu.out.cells.cell (j := 18) rfl
                have r18f := HRu.out.cells.fz 18
                go_wp2
                go_ret3
                first | exact ⟨_, _, rfl, HAN.out.1, HAN.out.2, by rw [← HTL.out]; exact HRu.out, HTu.out⟩ | exact ⟨rfl, _, HAN.out.1, _, HAN.out.2, by rw [← HTL.out]; exact HRu.out, HTu.out⟩
    · as_aux_lemma =>
          have tb : (th == 0) = false := by rw [beq_eq_false_iff_ne]; exact htz
          have tb2 : (th != 0) = true := by simp [bne, tb]
          have ht : tailM m.at_ m1 th ⟨op, (a : Nat), (b : Nat), (c : Nat), n, k⟩ = { m1 with at_ := m.at_, over := true, rcode := th, rbits := 0 } := if_pos htz
          rw [ht] at HTL
          clear ht htz
          have r2 : wz.cell? ⟨g, 2, none⟩ = some (.int .i64 (m1.at_ : Nat)) := HRm.out.cells.cell (j := 2) rfl
          have r2f := HRm.out.cells.fz 2
          have r16 : wz.cell? ⟨g, 16, none⟩ = some (.bool m1.over) := HRm.out.cells.cell (j := 16) rfl
          have r16f := HRm.out.cells.fz 16
          have r17 : wz.cell? ⟨g, 17, none⟩ = some (.int .i64 m1.rcode) := HRm.out.cells.cell (j := 17) rfl
          have r17f := HRm.out.cells.fz 17
          have r18 : wz.cell? ⟨g, 18, none⟩ = some (.int .u64 (m1.rbits : Nat)) := HRm.out.cells.cell (j := 18) rfl
          have r18f := HRm.out.cells.fz 18
          go_wp2
          go_ret3
          have hp := r_trap (n := m.at_) (c := th) HRm.out
          first | exact ⟨_, _, rfl, HAN.out.1, HAN.out.2, by rw [← HTL.out]; exact hp.1, HTm.out.trans (turns_g hp.2)⟩ | exact ⟨rfl, _, HAN.out.1, _, HAN.out.2, by rw [← HTL.out]; exact hp.1, HTm.out.trans (turns_g hp.2)⟩

end Go.Proofs.YtjloiclbknfomaaGreatDoor
