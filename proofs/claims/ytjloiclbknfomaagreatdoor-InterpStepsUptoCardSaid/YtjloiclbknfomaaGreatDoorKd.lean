/- (*interp.Machine).do: an instruction, as far as it is no jump (contracts). -/
import Derived.Test.YtjloiclbknfomaaGreatDoorKn
import Derived.Test.YtjloiclbknfomaaGreatDoorKr
import Derived.Test.YtjloiclbknfomaaGreatDoorNumTabs
import Derived.Deep.DeepCutAuto
import Derived.Deep.RegionHeld3
set_option maxRecDepth 100000
namespace Go.Proofs.YtjloiclbknfomaaGreatDoor
open Go.RowKit Ieee

/-- the answer's cell stored anew -/
theorem act_end {w w3 : World} {g B : Nat} {cs nv' pv' nv pv : Value} {m : Mach} {c : Array Value} (hM : Mw w3 g cs nv' pv' m) (hA : Cells w3 B 56 c) (hT : Turns (mOwn g nv pv) w w3) (hB : w.heap.size ≤ B) (u v : Value) :
    Mw ((w3.setCell ⟨B, 0, none⟩ u).setCell ⟨B, 1, none⟩ v) g cs nv' pv' m ∧ Turns (mOwn g nv pv) w ((w3.setCell ⟨B, 0, none⟩ u).setCell ⟨B, 1, none⟩ v) := by
  have h := hM.other hA (by decide) (by decide) (by decide) (by decide)
  have h1 := hM.far (x := ⟨B, 0, none⟩) h u
  have h2 := h1.far (x := ⟨B, 1, none⟩) h v
  exact ⟨h2, (hT.set (.inr hB) u).set (.inr hB) v⟩
theorem act_end' {w w3 : World} {g B : Nat} {cs nv' pv' nv pv : Value} {m : Mach} {c : Array Value} (hM : Mw w3 g cs nv' pv' m) (hA : Cells w3 B 56 c) (hT : Turns (mOwn g nv pv) w w3) (hB : w.heap.size ≤ B) (u v : Value) :
    Mw ((w3.setCell ⟨B, 0, none⟩ u).setCell ⟨B, 1, none⟩ v).drew g cs nv' pv' m ∧ Turns (mOwn g nv pv) w ((w3.setCell ⟨B, 0, none⟩ u).setCell ⟨B, 1, none⟩ v).drew := (act_end hM hA hT hB u v).imp Mw.drew Turns.drew
theorem turns_keep {w w2 w3 : World} {S : List Nat} (hb : Below w.heap.size w w2) (ht : Turns S w2 w3) : Turns S w w3 := (Turns.of_below hb).trans ht
theorem turns_g {w w3 : World} {g : Nat} {nv pv : Value} (ht : Turns [g] w w3) : Turns (mOwn g nv pv) w w3 := ht.mono fun x hx => .inl (mOwn_only g nv pv hx)
theorem reg_stored {w : World} {g a v : Nat} {cs nv pv : Value} {m : Mach} (h : Mw w g cs nv pv m) (ha : a < 8) (hr : m.regs.length = 8) : Mw (w.setCell ⟨g, 4 + a, none⟩ (.int .u64 (v : Nat))) g cs nv pv { m with regs := m.regs.set a v } ∧ Turns [g] w (w.setCell ⟨g, 4 + a, none⟩ (.int .u64 (v : Nat))) := by
  have ht : Turns [g] w (w.setCell ⟨g, 4 + a, none⟩ (.int .u64 (v : Nat))) := (Turns.refl _ _).set (.inl (by simp)) _
  refine ⟨h.block ht ?_ rfl rfl rfl, ht⟩
  rw [cells_set m cs nv pv a v ha hr]
  exact h.cells.set (4 + a) _

theorem can_reg {m : Mach} (hF : m.Fit) (b : Nat) (hb : b < 8) : Can (m.regs.getD b 0) := by
  have hl := hF.rlen
  rw [List.getD_eq_getElem?_getD, List.getElem?_eq_getElem (by omega)]
  exact hF.regs _ (List.getElem_mem _)

set_option maxRecDepth 100000 in
set_option maxHeartbeats 2000000 in
theorem do_set {w : World} {g : Nat} {cs nv pv : Value} {m : Mach} (hM : Mw w g cs nv pv m) (hF : m.Fit) (a b c : Nat) (ha : a < 8) (hb : b < 8) (hc : c < 8) (n : Int) (k : Nat) : Calls Tryz.prog 36 #[.pointer (some ⟨g, 0, none⟩), .agg #[.int .i64 1, .int .i64 (a : Nat), .int .i64 (b : Nat), .int .i64 (c : Nat), .int .i64 n, .int .u64 (k : Nat)]] w fun e w' => e = .returned (.agg #[.int .i64 0, .string ⟨#[]⟩]) ∧ Mw w' g cs nv pv { m with regs := m.regs.set a k } ∧ Turns (mOwn g nv pv) w w' := by
  have HM0 := Lib.hid hM
  have hlt := hM.lt
  have HR := Lib.hid hF.rlen
  clear hM hF
  go_enter Tryz.func36, Tryz.ntmps36
  go_upto_region 2 with (fail)
  have HX := Lib.hid ((Cells.new w 77 #[.int .i64 1, .int .i64 (a : Nat), .int .i64 (b : Nat), .int .i64 (c : Nat), .int .i64 n, .int .u64 (k : Nat)]).alloc (.cells #[.int .i64 0, .string ⟨#[]⟩] 56))
  have HA := Lib.hid (Cells.newAt (w.alloc (.cells #[.int .i64 1, .int .i64 (a : Nat), .int .i64 (b : Nat), .int .i64 (c : Nat), .int .i64 n, .int .u64 (k : Nat)] 77)) 56 #[.int .i64 0, .string ⟨#[]⟩] (w.heap.size + 1) (by simp))
  have HM := Lib.hid ((HM0.out.alloc (.cells #[.int .i64 1, .int .i64 (a : Nat), .int .i64 (b : Nat), .int .i64 (c : Nat), .int .i64 n, .int .u64 (k : Nat)] 77)).alloc (.cells #[.int .i64 0, .string ⟨#[]⟩] 56))
  have HB := Lib.hid (((Below.refl w.heap.size w).alloc (Nat.le_refl _) (.cells #[.int .i64 1, .int .i64 (a : Nat), .int .i64 (b : Nat), .int .i64 (c : Nat), .int .i64 n, .int .u64 (k : Nat)] 77)).alloc (by simp) (.cells #[.int .i64 0, .string ⟨#[]⟩] 56))
  generalize (w.alloc (.cells #[.int .i64 1, .int .i64 (a : Nat), .int .i64 (b : Nat), .int .i64 (c : Nat), .int .i64 n, .int .u64 (k : Nat)] 77)).alloc (.cells #[.int .i64 0, .string ⟨#[]⟩] 56) = w2 at *
  have hg1 : g ≠ w.heap.size := by omega
  have hg2 : g ≠ w.heap.size + 1 := by omega
  have y1 : w2.cell? ⟨w.heap.size, 1, none⟩ = some (.int .i64 (a : Nat)) := HX.out.cell (j := 1) rfl
  have y5 : w2.cell? ⟨w.heap.size, 5, none⟩ = some (.int .u64 (k : Nat)) := HX.out.cell (j := 5) rfl
  have r0 := HM.out.cells.cell (cells_reg m cs nv pv a ha)
  have f0 := HM.out.cells.fz (4 + a)
  have i0 : (0 : Int) ≤ a := by omega
  have i1 : (a : Int) < 8 := by omega
  have xs : ∀ u, (w2.setCell ⟨g, 4 + a, none⟩ u).cell? ⟨w.heap.size, 1, none⟩ = some (.int .i64 (a : Nat)) ∧ (w2.setCell ⟨g, 4 + a, none⟩ u).cell? ⟨w.heap.size, 5, none⟩ = some (.int .u64 (k : Nat)) := fun u => ⟨(HX.out.far (a := ⟨g, 4 + a, none⟩) (Ne.symm hg1) u).cell (j := 1) rfl, (HX.out.far (a := ⟨g, 4 + a, none⟩) (Ne.symm hg1) u).cell (j := 5) rfl⟩
  refine wp_region_held_drew (S := fun w' => w'.cell? ⟨w.heap.size, 1, none⟩ = some (.int .i64 (a : Nat)) ∧ w'.cell? ⟨w.heap.size, 5, none⟩ = some (.int .u64 (k : Nat))) (by kernel_rfl) ⟨y1, y5⟩ (fun hS => ?_)
  refine wpAnyH_take (i := 0) (v := ?_) rfl (by kernel_rfl) (by kernel_rfl) (by kernel_rfl) (fun _ _ _ h => h) (Or.inl ⟨by rfl, ?_⟩) hS ?_
  rotate_left
  · (intro wx hSx; (try dsimp only at hSx); go_simp; (try with_reducible rfl))
  simp only [List.getElem_toArray, List.getElem_cons_zero, Act.put, List.setIfInBounds_toArray, List.set_cons_zero, List.set_cons_succ]
  refine wpAnyH_take (i := 1) (v := ?_) rfl (by kernel_rfl) (by kernel_rfl) (by kernel_rfl) (fun _ _ _ h => h) (Or.inl ⟨by rfl, ?_⟩) hS ?_
  rotate_left
  · (intro wx hSx; (try dsimp only at hSx); go_simp; (try with_reducible rfl))
  simp only [List.getElem_toArray, List.getElem_cons_succ, List.getElem_cons_zero, Act.put, List.setIfInBounds_toArray, List.set_cons_zero, List.set_cons_succ]
  refine wpAnyH_take (i := 2) (v := ?_) rfl (by kernel_rfl) (by kernel_rfl) (by kernel_rfl) (fun _ _ _ h => h) (Or.inl ⟨by rfl, ?_⟩) hS ?_
  rotate_left
  · (intro wx hSx; (try dsimp only at hSx); go_simp; (try with_reducible rfl))
  simp only [List.getElem_toArray, List.getElem_cons_succ, List.getElem_cons_zero, Act.put, List.setIfInBounds_toArray, List.set_cons_zero, List.set_cons_succ]
  refine wpAnyH_take (i := 3) (v := ?_) rfl (by kernel_rfl) (by kernel_rfl) (by kernel_rfl) (fun _ _ _ h => h) (Or.inl ⟨by rfl, ?_⟩) hS ?_
  rotate_left
  · (intro wx hSx; (try dsimp only at hSx); go_simp; (try with_reducible rfl))
  simp only [List.getElem_toArray, List.getElem_cons_succ, List.getElem_cons_zero, Act.put, List.setIfInBounds_toArray, List.set_cons_zero, List.set_cons_succ]
  refine wpAnyH_take (i := 4) (v := ?_) rfl (by kernel_rfl) (by kernel_rfl) (by kernel_rfl) (fun _ _ _ h => h) (Or.inl ⟨by rfl, ?_⟩) hS ?_
  rotate_left
  · (intro wx hSx; (try dsimp only at hSx); go_simp; (try with_reducible rfl))
  simp only [List.getElem_toArray, List.getElem_cons_succ, List.getElem_cons_zero, Act.put, List.setIfInBounds_toArray, List.set_cons_zero, List.set_cons_succ]
  refine wpAnyH_take (i := 5) (v := ?_) rfl (by kernel_rfl) (by kernel_rfl) (by kernel_rfl) (fun _ _ _ h => h) (Or.inl ⟨by rfl, ?_⟩) hS ?_
  rotate_left
  · (intro wx hSx; (try dsimp only at hSx); go_simp; (try with_reducible rfl))
  simp only [List.getElem_toArray, List.getElem_cons_succ, List.getElem_cons_zero, Act.put, List.setIfInBounds_toArray, List.set_cons_zero, List.set_cons_succ]
  refine wpAnyH_take (i := 6) (v := ?_) rfl (by kernel_rfl) (by kernel_rfl) (by kernel_rfl) (fun _ _ _ h => h) (Or.inl ⟨by rfl, ?_⟩) hS ?_
  rotate_left
  · (intro wx hSx; (try dsimp only at hSx); go_simp; (try with_reducible rfl))
  simp only [List.getElem_toArray, List.getElem_cons_succ, List.getElem_cons_zero, Act.put, List.setIfInBounds_toArray, List.set_cons_zero, List.set_cons_succ]
  refine wpAnyH_take (i := 7) (v := ?_) rfl (by kernel_rfl) (by kernel_rfl) (by kernel_rfl) (fun _ _ _ h => h) (Or.inl ⟨by rfl, ?_⟩) hS ?_
  rotate_left
  · (intro wx hSx; (try dsimp only at hSx); go_simp; (try with_reducible rfl))
  simp only [List.getElem_toArray, List.getElem_cons_succ, List.getElem_cons_zero, Act.put, List.setIfInBounds_toArray, List.set_cons_zero, List.set_cons_succ]
  refine wpAnyH_ready (rs := [8]) (by kernel_rfl) (by simp) ?_
  refine AllReadyH.cons rfl (fun K hK => ?_) AllReadyH.nil
  go_simp
  refine hK.out _ _ (by first | with_reducible exact xs _ | exact xs _) (fun hS => ?_)
  clear hK K
  try simp only [Act.put, List.setIfInBounds_toArray, List.set_cons_zero, List.set_cons_succ]
  refine wpAnyH_done (by kernel_rfl) ?_ _
  have HS := Lib.hid (And.imp_right (turns_g (nv := nv) (pv := pv)) (reg_stored (v := k) HM.out ha HR.out))
  have HA3 := Lib.hid (HA.out.far (a := ⟨g, 4 + a, none⟩) (Ne.symm hg2) (.int .u64 (k : Nat)))
  clear xs y1 y5 r0 f0 hS
  try change Exit.then _ _ Exit.normal _ (w2.setCell ⟨g, 4 + a, none⟩ (.int .u64 (k : Nat)))
  generalize w2.setCell ⟨g, 4 + a, none⟩ (.int .u64 (k : Nat)) = w3 at *
  have a0 : w3.cell? ⟨w.heap.size + 1, 0, none⟩ = some (.int .i64 0) := HA3.out.cell (j := 0) rfl
  have a1 : w3.cell? ⟨w.heap.size + 1, 1, none⟩ = some (.string ⟨#[]⟩) := HA3.out.cell (j := 1) rfl
  have b0 := HA3.out.fz 0
  have b1 := HA3.out.fz 1
  go_wp2_with fail
  refine bodyPost_ret (v := .agg #[.int .i64 0, .string ⟨#[]⟩]) (by simp [results, Tryz.results36, go_sem, *]) rfl ?_
  first
    | exact ⟨rfl, act_end' HS.out.1 HA3.out (turns_keep HB.out HS.out.2) (by omega) _ _⟩
    | exact ⟨rfl, act_end HS.out.1 HA3.out (turns_keep HB.out HS.out.2) (by omega) _ _⟩

set_option maxRecDepth 100000 in
set_option maxHeartbeats 4000000 in
theorem do_two {w : World} {g : Nat} {cs nv pv : Value} {m : Mach} (hM : Mw w g cs nv pv m) (hF : m.Fit) (a b c : Nat) (ha : a < 8) (hb : b < 8) (hc : c < 8) (n : Int) (k : Nat) {op : Int} (h2 : 2 ≤ op) (h13 : op ≤ 13) : Calls Tryz.prog 36 #[.pointer (some ⟨g, 0, none⟩), .agg #[.int .i64 op, .int .i64 (a : Nat), .int .i64 (b : Nat), .int .i64 (c : Nat), .int .i64 n, .int .u64 (k : Nat)]] w fun e w' => e = .returned (.agg #[.int .i64 0, .string ⟨#[]⟩]) ∧ Mw w' g cs nv pv { m with regs := m.regs.set a (reckonM op (m.regs.getD b 0) (m.regs.getD c 0)) } ∧ Turns (mOwn g nv pv) w w' := by
  have HM0 := Lib.hid hM
  have hlt := hM.lt
  have HR := Lib.hid hF.rlen
  have qb : m.regs.getD b 0 < 2 * signB := (can_reg hF b hb).1
  have qc : m.regs.getD c 0 < 2 * signB := (can_reg hF c hc).1
  have kr := fun w => reckon_any h2 h13 qb qc w
  have t1 : (op == 1) = false := by rw [beq_eq_false_iff_ne]; omega
  clear hM hF
  go_enter Tryz.func36, Tryz.ntmps36
  go_upto_region 4 with (fail)
  have HX := Lib.hid ((Cells.new w 77 #[.int .i64 op, .int .i64 (a : Nat), .int .i64 (b : Nat), .int .i64 (c : Nat), .int .i64 n, .int .u64 (k : Nat)]).alloc (.cells #[.int .i64 0, .string ⟨#[]⟩] 56))
  have HA := Lib.hid (Cells.newAt (w.alloc (.cells #[.int .i64 op, .int .i64 (a : Nat), .int .i64 (b : Nat), .int .i64 (c : Nat), .int .i64 n, .int .u64 (k : Nat)] 77)) 56 #[.int .i64 0, .string ⟨#[]⟩] (w.heap.size + 1) (by simp))
  have HM := Lib.hid ((HM0.out.alloc (.cells #[.int .i64 op, .int .i64 (a : Nat), .int .i64 (b : Nat), .int .i64 (c : Nat), .int .i64 n, .int .u64 (k : Nat)] 77)).alloc (.cells #[.int .i64 0, .string ⟨#[]⟩] 56))
  have HB := Lib.hid (((Below.refl w.heap.size w).alloc (Nat.le_refl _) (.cells #[.int .i64 op, .int .i64 (a : Nat), .int .i64 (b : Nat), .int .i64 (c : Nat), .int .i64 n, .int .u64 (k : Nat)] 77)).alloc (by simp) (.cells #[.int .i64 0, .string ⟨#[]⟩] 56))
  generalize (w.alloc (.cells #[.int .i64 op, .int .i64 (a : Nat), .int .i64 (b : Nat), .int .i64 (c : Nat), .int .i64 n, .int .u64 (k : Nat)] 77)).alloc (.cells #[.int .i64 0, .string ⟨#[]⟩] 56) = w2 at *
  have hg1 : g ≠ w.heap.size := by omega
  have hg2 : g ≠ w.heap.size + 1 := by omega
  have y0 : w2.cell? ⟨w.heap.size, 0, none⟩ = some (.int .i64 op) := HX.out.cell (j := 0) rfl
  have y1 : w2.cell? ⟨w.heap.size, 1, none⟩ = some (.int .i64 (a : Nat)) := HX.out.cell (j := 1) rfl
  have y2 : w2.cell? ⟨w.heap.size, 2, none⟩ = some (.int .i64 (b : Nat)) := HX.out.cell (j := 2) rfl
  have y3 : w2.cell? ⟨w.heap.size, 3, none⟩ = some (.int .i64 (c : Nat)) := HX.out.cell (j := 3) rfl
  have rb := HM.out.cells.cell (cells_reg m cs nv pv b hb)
  have rc := HM.out.cells.cell (cells_reg m cs nv pv c hc)
  have i0 : (0 : Int) ≤ a := by omega
  have i1 : (a : Int) < 8 := by omega
  have j0 : (0 : Int) ≤ b := by omega
  have j1 : (b : Int) < 8 := by omega
  have l0 : (0 : Int) ≤ c := by omega
  have l1 : (c : Int) < 8 := by omega
  obtain ⟨rv, hrv⟩ : ∃ rv, reckonM op (m.regs.getD b 0) (m.regs.getD c 0) = rv := ⟨_, rfl⟩
  rw [hrv] at kr
  have HRV := Lib.hid hrv
  clear hrv qb qc
  obtain ⟨vb, hvb⟩ : ∃ v, m.regs.getD b 0 = v := ⟨_, rfl⟩
  obtain ⟨vc, hvc⟩ : ∃ v, m.regs.getD c 0 = v := ⟨_, rfl⟩
  rw [hvb, hvc] at kr
  rw [hvb] at rb
  rw [hvc] at rc
  clear hvb hvc
  refine wp_region_held_drew (S := fun w' => w'.cell? ⟨w.heap.size, 0, none⟩ = some (.int .i64 op) ∧ w'.cell? ⟨w.heap.size, 1, none⟩ = some (.int .i64 (a : Nat)) ∧ w'.cell? ⟨w.heap.size, 2, none⟩ = some (.int .i64 (b : Nat)) ∧ w'.cell? ⟨w.heap.size, 3, none⟩ = some (.int .i64 (c : Nat))) (by kernel_rfl) ⟨y0, y1, y2, y3⟩ (fun hS => ?_)
  refine wpAnyH_take (i := 0) (v := ?_) rfl (by kernel_rfl) (by kernel_rfl) (by kernel_rfl) (fun _ _ _ h => h) (Or.inl ⟨by rfl, ?_⟩) hS ?_
  rotate_left
  · (intro wx hSx; (try dsimp only at hSx); go_simp; (try with_reducible rfl))
  simp only [List.getElem_toArray, List.getElem_cons_zero, Act.put, List.setIfInBounds_toArray, List.set_cons_zero, List.set_cons_succ]
  refine wpAnyH_take (i := 1) (v := ?_) rfl (by kernel_rfl) (by kernel_rfl) (by kernel_rfl) (fun _ _ _ h => h) (Or.inl ⟨by rfl, ?_⟩) hS ?_
  rotate_left
  · (intro wx hSx; (try dsimp only at hSx); go_simp; (try with_reducible rfl))
  simp only [List.getElem_toArray, List.getElem_cons_succ, List.getElem_cons_zero, Act.put, List.setIfInBounds_toArray, List.set_cons_zero, List.set_cons_succ]
  refine wpAnyH_take (i := 2) (v := ?_) rfl (by kernel_rfl) (by kernel_rfl) (by kernel_rfl) (fun _ _ _ h => h) (Or.inl ⟨by rfl, ?_⟩) hS ?_
  rotate_left
  · (intro wx hSx; (try dsimp only at hSx); go_simp; (try with_reducible rfl))
  simp only [List.getElem_toArray, List.getElem_cons_succ, List.getElem_cons_zero, Act.put, List.setIfInBounds_toArray, List.set_cons_zero, List.set_cons_succ]
  refine wpAnyH_take (i := 3) (v := ?_) rfl (by kernel_rfl) (by kernel_rfl) (by kernel_rfl) (fun _ _ _ h => h) (Or.inl ⟨by rfl, ?_⟩) hS ?_
  rotate_left
  · (intro wx hSx; (try dsimp only at hSx); go_simp; (try with_reducible rfl))
  simp only [List.getElem_toArray, List.getElem_cons_succ, List.getElem_cons_zero, Act.put, List.setIfInBounds_toArray, List.set_cons_zero, List.set_cons_succ]
  refine wpAnyH_take (i := 4) (v := ?_) rfl (by kernel_rfl) (by kernel_rfl) (by kernel_rfl) (fun _ _ _ h => h) (Or.inl ⟨by rfl, ?_⟩) hS ?_
  rotate_left
  · (intro wx hSx; (try dsimp only at hSx); go_simp; (try with_reducible rfl))
  simp only [List.getElem_toArray, List.getElem_cons_succ, List.getElem_cons_zero, Act.put, List.setIfInBounds_toArray, List.set_cons_zero, List.set_cons_succ]
  refine wpAnyH_take (i := 5) (v := ?_) rfl (by kernel_rfl) (by kernel_rfl) (by kernel_rfl) (fun _ _ _ h => h) (Or.inl ⟨by rfl, ?_⟩) hS ?_
  rotate_left
  · (intro wx hSx; (try dsimp only at hSx); go_simp; (try with_reducible rfl))
  simp only [List.getElem_toArray, List.getElem_cons_succ, List.getElem_cons_zero, Act.put, List.setIfInBounds_toArray, List.set_cons_zero, List.set_cons_succ]
  refine wpAnyH_take (i := 6) (v := ?_) rfl (by kernel_rfl) (by kernel_rfl) (by kernel_rfl) (fun _ _ _ h => h) (Or.inl ⟨by rfl, ?_⟩) hS ?_
  rotate_left
  · (intro wx hSx; (try dsimp only at hSx); go_simp; (try with_reducible rfl))
  simp only [List.getElem_toArray, List.getElem_cons_succ, List.getElem_cons_zero, Act.put, List.setIfInBounds_toArray, List.set_cons_zero, List.set_cons_succ]
  refine wpAnyH_take (i := 7) (v := ?_) rfl (by kernel_rfl) (by kernel_rfl) (by kernel_rfl) (fun _ _ _ h => h) (Or.inl ⟨by rfl, ?_⟩) hS ?_
  rotate_left
  · (intro wx hSx; (try dsimp only at hSx); go_simp; (try with_reducible rfl))
  simp only [List.getElem_toArray, List.getElem_cons_succ, List.getElem_cons_zero, Act.put, List.setIfInBounds_toArray, List.set_cons_zero, List.set_cons_succ]
  refine wpAnyH_take (i := 8) (v := ?_) rfl (by kernel_rfl) (by kernel_rfl) (by kernel_rfl) (fun _ _ _ h => h) (Or.inl ⟨by rfl, ?_⟩) hS ?_
  rotate_left
  · (intro wx hSx; (try dsimp only at hSx); go_simp; (try with_reducible rfl))
  simp only [List.getElem_toArray, List.getElem_cons_succ, List.getElem_cons_zero, Act.put, List.setIfInBounds_toArray, List.set_cons_zero, List.set_cons_succ]
  refine wpAnyH_take (i := 9) (v := ?_) rfl (by kernel_rfl) (by kernel_rfl) (by kernel_rfl) (fun _ _ _ h => h) (Or.inl ⟨by rfl, ?_⟩) hS ?_
  rotate_left
  · (intro wx hSx; (try dsimp only at hSx); go_simp; (try with_reducible rfl))
  simp only [List.getElem_toArray, List.getElem_cons_succ, List.getElem_cons_zero, Act.put, List.setIfInBounds_toArray, List.set_cons_zero, List.set_cons_succ]
  refine wpAnyH_take (i := 10) (v := ?_) rfl (by kernel_rfl) (by kernel_rfl) (by kernel_rfl) (fun _ _ _ h => h) (Or.inl ⟨by rfl, ?_⟩) hS ?_
  rotate_left
  · (intro wx hSx; (try dsimp only at hSx); go_simp; (try with_reducible rfl))
  simp only [List.getElem_toArray, List.getElem_cons_succ, List.getElem_cons_zero, Act.put, List.setIfInBounds_toArray, List.set_cons_zero, List.set_cons_succ]
  refine wpAnyH_take (i := 12) (v := ?_) rfl (by kernel_rfl) (by kernel_rfl) (by kernel_rfl) (fun _ _ _ h => h) (Or.inl ⟨by rfl, ?_⟩) hS ?_
  rotate_left
  · (intro wx hSx; (try dsimp only at hSx); go_simp; (try with_reducible rfl))
  simp only [List.getElem_toArray, List.getElem_cons_succ, List.getElem_cons_zero, Act.put, List.setIfInBounds_toArray, List.set_cons_zero, List.set_cons_succ]
  refine wpAnyH_take (i := 13) (v := ?_) rfl (by kernel_rfl) (by kernel_rfl) (by kernel_rfl) (fun _ _ _ h => h) (Or.inl ⟨by rfl, ?_⟩) hS ?_
  rotate_left
  · (intro wx hSx; (try dsimp only at hSx); go_simp; (try with_reducible rfl))
  simp only [List.getElem_toArray, List.getElem_cons_succ, List.getElem_cons_zero, Act.put, List.setIfInBounds_toArray, List.set_cons_zero, List.set_cons_succ]
  refine wpAnyH_take (i := 14) (v := ?_) rfl (by kernel_rfl) (by kernel_rfl) (by kernel_rfl) (fun _ _ _ h => h) (Or.inl ⟨by rfl, ?_⟩) hS ?_
  rotate_left
  · (intro wx hSx; (try dsimp only at hSx); go_simp; (try with_reducible rfl))
  simp only [List.getElem_toArray, List.getElem_cons_succ, List.getElem_cons_zero, Act.put, List.setIfInBounds_toArray, List.set_cons_zero, List.set_cons_succ]
  refine wpAnyH_take (i := 15) (v := ?_) rfl (by kernel_rfl) (by kernel_rfl) (by kernel_rfl) (fun _ _ _ h => h) (Or.inl ⟨by rfl, ?_⟩) hS ?_
  rotate_left
  · (intro wx hSx; (try dsimp only at hSx); go_simp; (try with_reducible rfl))
  simp only [List.getElem_toArray, List.getElem_cons_succ, List.getElem_cons_zero, Act.put, List.setIfInBounds_toArray, List.set_cons_zero, List.set_cons_succ]
  refine wpAnyH_take (i := 16) (v := ?_) rfl (by kernel_rfl) (by kernel_rfl) (by kernel_rfl) (fun _ _ _ h => h) (Or.inl ⟨by rfl, ?_⟩) hS ?_
  rotate_left
  · (intro wx hSx; (try dsimp only at hSx); go_simp; (try with_reducible rfl))
  simp only [List.getElem_toArray, List.getElem_cons_succ, List.getElem_cons_zero, Act.put, List.setIfInBounds_toArray, List.set_cons_zero, List.set_cons_succ]
  refine wpAnyH_take (i := 17) (v := ?_) rfl (by kernel_rfl) (by kernel_rfl) (by kernel_rfl) (fun _ _ _ h => h) (Or.inl ⟨by rfl, ?_⟩) hS ?_
  rotate_left
  · (intro wx hSx; (try dsimp only at hSx); go_simp; (try with_reducible rfl))
  simp only [List.getElem_toArray, List.getElem_cons_succ, List.getElem_cons_zero, Act.put, List.setIfInBounds_toArray, List.set_cons_zero, List.set_cons_succ]
  refine wpAnyH_take (i := 20) (v := ?_) rfl (by kernel_rfl) (by kernel_rfl) (by kernel_rfl) (fun _ _ _ h => h) (Or.inl ⟨by rfl, ?_⟩) hS ?_
  rotate_left
  · (intro wx hSx; (try dsimp only at hSx); go_simp; (try with_reducible rfl))
  simp only [List.getElem_toArray, List.getElem_cons_succ, List.getElem_cons_zero, Act.put, List.setIfInBounds_toArray, List.set_cons_zero, List.set_cons_succ]
  refine wpAnyH_take (i := 21) (v := ?_) rfl (by kernel_rfl) (by kernel_rfl) (by kernel_rfl) (fun _ _ _ h => h) (Or.inl ⟨by rfl, ?_⟩) hS ?_
  rotate_left
  · (intro wx hSx; (try dsimp only at hSx); go_simp; (try with_reducible rfl))
  simp only [List.getElem_toArray, List.getElem_cons_succ, List.getElem_cons_zero, Act.put, List.setIfInBounds_toArray, List.set_cons_zero, List.set_cons_succ]
  refine wpAnyH_ready (rs := [11, 18]) (by kernel_rfl) (by simp) ?_
  refine AllReadyH.cons rfl (fun K hK => ?_) (AllReadyH.cons rfl (fun K hK => ?_) AllReadyH.nil)
  · go_simp
    refine hK.out _ _ (by first | with_reducible exact hS | with_reducible exact xq | with_reducible exact xs _ | exact xs _ | exact hS) (fun hS => ?_)
    clear hK K
    try simp only [Act.put, List.setIfInBounds_toArray, List.set_cons_zero, List.set_cons_succ]
    refine wpAnyH_ready (rs := [18]) (by kernel_rfl) (by simp) ?_
    refine AllReadyH.cons rfl (fun K hK => ?_) AllReadyH.nil
    go_simp
    refine hK.out _ _ (by first | with_reducible exact hS | with_reducible exact xq | with_reducible exact xs _ | exact xs _ | exact hS) (fun hS => ?_)
    clear hK K
    try simp only [Act.put, List.setIfInBounds_toArray, List.set_cons_zero, List.set_cons_succ]
    refine wpAnyH_ready (rs := [19]) (by kernel_rfl) (by simp) ?_
    refine AllReadyH.cons rfl (fun K hK => ?_) AllReadyH.nil
    go_simp
    go_at_call 57
    with_reducible (refine (kr _).mono ?_)
    rintro _ wq ⟨rfl, hbq⟩
    have HQ := Lib.hid (show Below w2.heap.size w2 wq from by first | exact hbq | exact ⟨hbq.os, hbq.tape, hbq.output, hbq.size, hbq.block⟩)
    have HXq := Lib.hid (Cells.keep HX.out HQ.out)
    have HMq := Lib.hid (Mw.keep HM.out HQ.out)
    have HAq := Lib.hid (Cells.keep HA.out HQ.out)
    clear hbq
    have z0 := HMq.out.cells.cell (cells_reg m cs nv pv a ha)
    have zf := HMq.out.cells.fz (4 + a)
    have xq : wq.cell? ⟨w.heap.size, 0, none⟩ = some (.int .i64 op) ∧ wq.cell? ⟨w.heap.size, 1, none⟩ = some (.int .i64 (a : Nat)) ∧ wq.cell? ⟨w.heap.size, 2, none⟩ = some (.int .i64 (b : Nat)) ∧ wq.cell? ⟨w.heap.size, 3, none⟩ = some (.int .i64 (c : Nat)) := ⟨HXq.out.cell (j := 0) rfl, HXq.out.cell (j := 1) rfl, HXq.out.cell (j := 2) rfl, HXq.out.cell (j := 3) rfl⟩
    have xs : ∀ u, (wq.setCell ⟨g, 4 + a, none⟩ u).cell? ⟨w.heap.size, 0, none⟩ = some (.int .i64 op) ∧ (wq.setCell ⟨g, 4 + a, none⟩ u).cell? ⟨w.heap.size, 1, none⟩ = some (.int .i64 (a : Nat)) ∧ (wq.setCell ⟨g, 4 + a, none⟩ u).cell? ⟨w.heap.size, 2, none⟩ = some (.int .i64 (b : Nat)) ∧ (wq.setCell ⟨g, 4 + a, none⟩ u).cell? ⟨w.heap.size, 3, none⟩ = some (.int .i64 (c : Nat)) := fun u => ⟨(HXq.out.far (a := ⟨g, 4 + a, none⟩) (Ne.symm hg1) u).cell (j := 0) rfl, (HXq.out.far (a := ⟨g, 4 + a, none⟩) (Ne.symm hg1) u).cell (j := 1) rfl, (HXq.out.far (a := ⟨g, 4 + a, none⟩) (Ne.symm hg1) u).cell (j := 2) rfl, (HXq.out.far (a := ⟨g, 4 + a, none⟩) (Ne.symm hg1) u).cell (j := 3) rfl⟩
    refine hK.out _ _ (by first | with_reducible exact hS | with_reducible exact xq | with_reducible exact xs _ | exact xs _ | exact hS) (fun hS => ?_)
    clear hK K
    try simp only [Act.put, List.setIfInBounds_toArray, List.set_cons_zero, List.set_cons_succ]
    refine wpAnyH_take (i := 22) (v := ?_) rfl (by kernel_rfl) (by kernel_rfl) (by kernel_rfl) (fun _ _ _ h => h) (Or.inl ⟨by rfl, ?_⟩) hS ?_
    rotate_left
    · (intro wx hSx; (try dsimp only at hSx); go_simp; (try with_reducible rfl))
    simp only [List.getElem_toArray, List.getElem_cons_succ, List.getElem_cons_zero, Act.put, List.setIfInBounds_toArray, List.set_cons_zero, List.set_cons_succ]
    refine wpAnyH_ready (rs := [23]) (by kernel_rfl) (by simp) ?_
    refine AllReadyH.cons rfl (fun K hK => ?_) AllReadyH.nil
    go_simp
    refine hK.out _ _ (by first | with_reducible exact hS | with_reducible exact xq | with_reducible exact xs _ | exact xs _ | exact hS) (fun hS => ?_)
    clear hK K
    try simp only [Act.put, List.setIfInBounds_toArray, List.set_cons_zero, List.set_cons_succ]
    refine wpAnyH_done (by kernel_rfl) ?_ _
    have HS := Lib.hid (And.imp_right (fun t => (Turns.of_below HQ.out).trans (turns_g (nv := nv) (pv := pv) t)) (reg_stored (v := rv) HMq.out ha HR.out))
    have HA3 := Lib.hid (HAq.out.far (a := ⟨g, 4 + a, none⟩) (Ne.symm hg2) (.int .u64 (rv : Nat)))
    clear xs xq y0 y1 y2 y3 rb rc z0 zf hS
    try change Exit.then _ _ Exit.normal _ (wq.setCell ⟨g, 4 + a, none⟩ (.int .u64 (rv : Nat)))
    generalize wq.setCell ⟨g, 4 + a, none⟩ (.int .u64 (rv : Nat)) = w3 at *
    rw [← HRV.out] at HS
    have a0 : w3.cell? ⟨w.heap.size + 1, 0, none⟩ = some (.int .i64 0) := HA3.out.cell (j := 0) rfl
    have a1 : w3.cell? ⟨w.heap.size + 1, 1, none⟩ = some (.string ⟨#[]⟩) := HA3.out.cell (j := 1) rfl
    have b0 := HA3.out.fz 0
    have b1 := HA3.out.fz 1
    go_wp2_with fail
    refine bodyPost_ret (v := .agg #[.int .i64 0, .string ⟨#[]⟩]) (by simp [results, Tryz.results36, go_sem, *]) rfl ?_
    first
      | exact ⟨rfl, act_end' HS.out.1 HA3.out (turns_keep HB.out HS.out.2) (by omega) _ _⟩
      | exact ⟨rfl, act_end HS.out.1 HA3.out (turns_keep HB.out HS.out.2) (by omega) _ _⟩
  · go_simp
    refine hK.out _ _ (by first | with_reducible exact hS | with_reducible exact xq | with_reducible exact xs _ | exact xs _ | exact hS) (fun hS => ?_)
    clear hK K
    try simp only [Act.put, List.setIfInBounds_toArray, List.set_cons_zero, List.set_cons_succ]
    refine wpAnyH_ready (rs := [11]) (by kernel_rfl) (by simp) ?_
    refine AllReadyH.cons rfl (fun K hK => ?_) AllReadyH.nil
    go_simp
    refine hK.out _ _ (by first | with_reducible exact hS | with_reducible exact xq | with_reducible exact xs _ | exact xs _ | exact hS) (fun hS => ?_)
    clear hK K
    try simp only [Act.put, List.setIfInBounds_toArray, List.set_cons_zero, List.set_cons_succ]
    refine wpAnyH_ready (rs := [19]) (by kernel_rfl) (by simp) ?_
    refine AllReadyH.cons rfl (fun K hK => ?_) AllReadyH.nil
    go_simp
    go_at_call 57
    with_reducible (refine (kr _).mono ?_)
    rintro _ wq ⟨rfl, hbq⟩
    have HQ := Lib.hid (show Below w2.heap.size w2 wq from by first | exact hbq | exact ⟨hbq.os, hbq.tape, hbq.output, hbq.size, hbq.block⟩)
    have HXq := Lib.hid (Cells.keep HX.out HQ.out)
    have HMq := Lib.hid (Mw.keep HM.out HQ.out)
    have HAq := Lib.hid (Cells.keep HA.out HQ.out)
    clear hbq
    have z0 := HMq.out.cells.cell (cells_reg m cs nv pv a ha)
    have zf := HMq.out.cells.fz (4 + a)
    have xq : wq.cell? ⟨w.heap.size, 0, none⟩ = some (.int .i64 op) ∧ wq.cell? ⟨w.heap.size, 1, none⟩ = some (.int .i64 (a : Nat)) ∧ wq.cell? ⟨w.heap.size, 2, none⟩ = some (.int .i64 (b : Nat)) ∧ wq.cell? ⟨w.heap.size, 3, none⟩ = some (.int .i64 (c : Nat)) := ⟨HXq.out.cell (j := 0) rfl, HXq.out.cell (j := 1) rfl, HXq.out.cell (j := 2) rfl, HXq.out.cell (j := 3) rfl⟩
    have xs : ∀ u, (wq.setCell ⟨g, 4 + a, none⟩ u).cell? ⟨w.heap.size, 0, none⟩ = some (.int .i64 op) ∧ (wq.setCell ⟨g, 4 + a, none⟩ u).cell? ⟨w.heap.size, 1, none⟩ = some (.int .i64 (a : Nat)) ∧ (wq.setCell ⟨g, 4 + a, none⟩ u).cell? ⟨w.heap.size, 2, none⟩ = some (.int .i64 (b : Nat)) ∧ (wq.setCell ⟨g, 4 + a, none⟩ u).cell? ⟨w.heap.size, 3, none⟩ = some (.int .i64 (c : Nat)) := fun u => ⟨(HXq.out.far (a := ⟨g, 4 + a, none⟩) (Ne.symm hg1) u).cell (j := 0) rfl, (HXq.out.far (a := ⟨g, 4 + a, none⟩) (Ne.symm hg1) u).cell (j := 1) rfl, (HXq.out.far (a := ⟨g, 4 + a, none⟩) (Ne.symm hg1) u).cell (j := 2) rfl, (HXq.out.far (a := ⟨g, 4 + a, none⟩) (Ne.symm hg1) u).cell (j := 3) rfl⟩
    refine hK.out _ _ (by first | with_reducible exact hS | with_reducible exact xq | with_reducible exact xs _ | exact xs _ | exact hS) (fun hS => ?_)
    clear hK K
    try simp only [Act.put, List.setIfInBounds_toArray, List.set_cons_zero, List.set_cons_succ]
    refine wpAnyH_take (i := 22) (v := ?_) rfl (by kernel_rfl) (by kernel_rfl) (by kernel_rfl) (fun _ _ _ h => h) (Or.inl ⟨by rfl, ?_⟩) hS ?_
    rotate_left
    · (intro wx hSx; (try dsimp only at hSx); go_simp; (try with_reducible rfl))
    simp only [List.getElem_toArray, List.getElem_cons_succ, List.getElem_cons_zero, Act.put, List.setIfInBounds_toArray, List.set_cons_zero, List.set_cons_succ]
    refine wpAnyH_ready (rs := [23]) (by kernel_rfl) (by simp) ?_
    refine AllReadyH.cons rfl (fun K hK => ?_) AllReadyH.nil
    go_simp
    refine hK.out _ _ (by first | with_reducible exact hS | with_reducible exact xq | with_reducible exact xs _ | exact xs _ | exact hS) (fun hS => ?_)
    clear hK K
    try simp only [Act.put, List.setIfInBounds_toArray, List.set_cons_zero, List.set_cons_succ]
    refine wpAnyH_done (by kernel_rfl) ?_ _
    have HS := Lib.hid (And.imp_right (fun t => (Turns.of_below HQ.out).trans (turns_g (nv := nv) (pv := pv) t)) (reg_stored (v := rv) HMq.out ha HR.out))
    have HA3 := Lib.hid (HAq.out.far (a := ⟨g, 4 + a, none⟩) (Ne.symm hg2) (.int .u64 (rv : Nat)))
    clear xs xq y0 y1 y2 y3 rb rc z0 zf hS
    try change Exit.then _ _ Exit.normal _ (wq.setCell ⟨g, 4 + a, none⟩ (.int .u64 (rv : Nat)))
    generalize wq.setCell ⟨g, 4 + a, none⟩ (.int .u64 (rv : Nat)) = w3 at *
    rw [← HRV.out] at HS
    have a0 : w3.cell? ⟨w.heap.size + 1, 0, none⟩ = some (.int .i64 0) := HA3.out.cell (j := 0) rfl
    have a1 : w3.cell? ⟨w.heap.size + 1, 1, none⟩ = some (.string ⟨#[]⟩) := HA3.out.cell (j := 1) rfl
    have b0 := HA3.out.fz 0
    have b1 := HA3.out.fz 1
    go_wp2_with fail
    refine bodyPost_ret (v := .agg #[.int .i64 0, .string ⟨#[]⟩]) (by simp [results, Tryz.results36, go_sem, *]) rfl ?_
    first
      | exact ⟨rfl, act_end' HS.out.1 HA3.out (turns_keep HB.out HS.out.2) (by omega) _ _⟩
      | exact ⟨rfl, act_end HS.out.1 HA3.out (turns_keep HB.out HS.out.2) (by omega) _ _⟩

set_option maxRecDepth 100000 in
set_option maxHeartbeats 2000000 in
theorem do_none {w : World} {g : Nat} {cs nv pv : Value} {m : Mach} (hM : Mw w g cs nv pv m) (hF : m.Fit) (a b c : Nat) (ha : a < 8) (hb : b < 8) (hc : c < 8) (n : Int) (k : Nat) {op : Int} (hop : op = 14 ∨ op = 15 ∨ op = 16 ∨ op = 17 ∨ op = 18 ∨ op = 24) : Calls Tryz.prog 36 #[.pointer (some ⟨g, 0, none⟩), .agg #[.int .i64 op, .int .i64 (a : Nat), .int .i64 (b : Nat), .int .i64 (c : Nat), .int .i64 n, .int .u64 (k : Nat)]] w fun e w' => e = .returned (.agg #[.int .i64 0, .string ⟨#[]⟩]) ∧ Mw w' g cs nv pv m ∧ Turns (mOwn g nv pv) w w' := by
  have HM0 := Lib.hid hM
  have hlt := hM.lt
  have HR := Lib.hid hF.rlen
  clear hM hF
  rcases hop with rfl | rfl | rfl | rfl | rfl | rfl
  · go_enter Tryz.func36, Tryz.ntmps36
    go_upto_region 23 with (fail)
    have HX := Lib.hid ((Cells.new w 77 #[.int .i64 14, .int .i64 (a : Nat), .int .i64 (b : Nat), .int .i64 (c : Nat), .int .i64 n, .int .u64 (k : Nat)]).alloc (.cells #[.int .i64 0, .string ⟨#[]⟩] 56))
    have HA := Lib.hid (Cells.newAt (w.alloc (.cells #[.int .i64 14, .int .i64 (a : Nat), .int .i64 (b : Nat), .int .i64 (c : Nat), .int .i64 n, .int .u64 (k : Nat)] 77)) 56 #[.int .i64 0, .string ⟨#[]⟩] (w.heap.size + 1) (by simp))
    have HM := Lib.hid ((HM0.out.alloc (.cells #[.int .i64 14, .int .i64 (a : Nat), .int .i64 (b : Nat), .int .i64 (c : Nat), .int .i64 n, .int .u64 (k : Nat)] 77)).alloc (.cells #[.int .i64 0, .string ⟨#[]⟩] 56))
    have HB := Lib.hid (((Below.refl w.heap.size w).alloc (Nat.le_refl _) (.cells #[.int .i64 14, .int .i64 (a : Nat), .int .i64 (b : Nat), .int .i64 (c : Nat), .int .i64 n, .int .u64 (k : Nat)] 77)).alloc (by simp) (.cells #[.int .i64 0, .string ⟨#[]⟩] 56))
    generalize (w.alloc (.cells #[.int .i64 14, .int .i64 (a : Nat), .int .i64 (b : Nat), .int .i64 (c : Nat), .int .i64 n, .int .u64 (k : Nat)] 77)).alloc (.cells #[.int .i64 0, .string ⟨#[]⟩] 56) = w2 at *
    have hg1 : g ≠ w.heap.size := by omega
    have hg2 : g ≠ w.heap.size + 1 := by omega
    have HS := Lib.hid (And.intro HM.out (Turns.refl (mOwn g nv pv) w2))
    have HA3 := Lib.hid HA.out
    generalize w2 = w3 at *
    have a0 : w3.cell? ⟨w.heap.size + 1, 0, none⟩ = some (.int .i64 0) := HA3.out.cell (j := 0) rfl
    have a1 : w3.cell? ⟨w.heap.size + 1, 1, none⟩ = some (.string ⟨#[]⟩) := HA3.out.cell (j := 1) rfl
    have b0 := HA3.out.fz 0
    have b1 := HA3.out.fz 1
    go_wp2_with fail
    refine bodyPost_ret (v := .agg #[.int .i64 0, .string ⟨#[]⟩]) (by simp [results, Tryz.results36, go_sem, *]) rfl ?_
    first
      | exact ⟨rfl, act_end' HS.out.1 HA3.out (turns_keep HB.out HS.out.2) (by omega) _ _⟩
      | exact ⟨rfl, act_end HS.out.1 HA3.out (turns_keep HB.out HS.out.2) (by omega) _ _⟩
  · go_enter Tryz.func36, Tryz.ntmps36
    go_upto_region 23 with (fail)
    have HX := Lib.hid ((Cells.new w 77 #[.int .i64 15, .int .i64 (a : Nat), .int .i64 (b : Nat), .int .i64 (c : Nat), .int .i64 n, .int .u64 (k : Nat)]).alloc (.cells #[.int .i64 0, .string ⟨#[]⟩] 56))
    have HA := Lib.hid (Cells.newAt (w.alloc (.cells #[.int .i64 15, .int .i64 (a : Nat), .int .i64 (b : Nat), .int .i64 (c : Nat), .int .i64 n, .int .u64 (k : Nat)] 77)) 56 #[.int .i64 0, .string ⟨#[]⟩] (w.heap.size + 1) (by simp))
    have HM := Lib.hid ((HM0.out.alloc (.cells #[.int .i64 15, .int .i64 (a : Nat), .int .i64 (b : Nat), .int .i64 (c : Nat), .int .i64 n, .int .u64 (k : Nat)] 77)).alloc (.cells #[.int .i64 0, .string ⟨#[]⟩] 56))
    have HB := Lib.hid (((Below.refl w.heap.size w).alloc (Nat.le_refl _) (.cells #[.int .i64 15, .int .i64 (a : Nat), .int .i64 (b : Nat), .int .i64 (c : Nat), .int .i64 n, .int .u64 (k : Nat)] 77)).alloc (by simp) (.cells #[.int .i64 0, .string ⟨#[]⟩] 56))
    generalize (w.alloc (.cells #[.int .i64 15, .int .i64 (a : Nat), .int .i64 (b : Nat), .int .i64 (c : Nat), .int .i64 n, .int .u64 (k : Nat)] 77)).alloc (.cells #[.int .i64 0, .string ⟨#[]⟩] 56) = w2 at *
    have hg1 : g ≠ w.heap.size := by omega
    have hg2 : g ≠ w.heap.size + 1 := by omega
    have HS := Lib.hid (And.intro HM.out (Turns.refl (mOwn g nv pv) w2))
    have HA3 := Lib.hid HA.out
    generalize w2 = w3 at *
    have a0 : w3.cell? ⟨w.heap.size + 1, 0, none⟩ = some (.int .i64 0) := HA3.out.cell (j := 0) rfl
    have a1 : w3.cell? ⟨w.heap.size + 1, 1, none⟩ = some (.string ⟨#[]⟩) := HA3.out.cell (j := 1) rfl
    have b0 := HA3.out.fz 0
    have b1 := HA3.out.fz 1
    go_wp2_with fail
    refine bodyPost_ret (v := .agg #[.int .i64 0, .string ⟨#[]⟩]) (by simp [results, Tryz.results36, go_sem, *]) rfl ?_
    first
      | exact ⟨rfl, act_end' HS.out.1 HA3.out (turns_keep HB.out HS.out.2) (by omega) _ _⟩
      | exact ⟨rfl, act_end HS.out.1 HA3.out (turns_keep HB.out HS.out.2) (by omega) _ _⟩
  · go_enter Tryz.func36, Tryz.ntmps36
    go_upto_region 23 with (fail)
    have HX := Lib.hid ((Cells.new w 77 #[.int .i64 16, .int .i64 (a : Nat), .int .i64 (b : Nat), .int .i64 (c : Nat), .int .i64 n, .int .u64 (k : Nat)]).alloc (.cells #[.int .i64 0, .string ⟨#[]⟩] 56))
    have HA := Lib.hid (Cells.newAt (w.alloc (.cells #[.int .i64 16, .int .i64 (a : Nat), .int .i64 (b : Nat), .int .i64 (c : Nat), .int .i64 n, .int .u64 (k : Nat)] 77)) 56 #[.int .i64 0, .string ⟨#[]⟩] (w.heap.size + 1) (by simp))
    have HM := Lib.hid ((HM0.out.alloc (.cells #[.int .i64 16, .int .i64 (a : Nat), .int .i64 (b : Nat), .int .i64 (c : Nat), .int .i64 n, .int .u64 (k : Nat)] 77)).alloc (.cells #[.int .i64 0, .string ⟨#[]⟩] 56))
    have HB := Lib.hid (((Below.refl w.heap.size w).alloc (Nat.le_refl _) (.cells #[.int .i64 16, .int .i64 (a : Nat), .int .i64 (b : Nat), .int .i64 (c : Nat), .int .i64 n, .int .u64 (k : Nat)] 77)).alloc (by simp) (.cells #[.int .i64 0, .string ⟨#[]⟩] 56))
    generalize (w.alloc (.cells #[.int .i64 16, .int .i64 (a : Nat), .int .i64 (b : Nat), .int .i64 (c : Nat), .int .i64 n, .int .u64 (k : Nat)] 77)).alloc (.cells #[.int .i64 0, .string ⟨#[]⟩] 56) = w2 at *
    have hg1 : g ≠ w.heap.size := by omega
    have hg2 : g ≠ w.heap.size + 1 := by omega
    have HS := Lib.hid (And.intro HM.out (Turns.refl (mOwn g nv pv) w2))
    have HA3 := Lib.hid HA.out
    generalize w2 = w3 at *
    have a0 : w3.cell? ⟨w.heap.size + 1, 0, none⟩ = some (.int .i64 0) := HA3.out.cell (j := 0) rfl
    have a1 : w3.cell? ⟨w.heap.size + 1, 1, none⟩ = some (.string ⟨#[]⟩) := HA3.out.cell (j := 1) rfl
    have b0 := HA3.out.fz 0
    have b1 := HA3.out.fz 1
    go_wp2_with fail
    refine bodyPost_ret (v := .agg #[.int .i64 0, .string ⟨#[]⟩]) (by simp [results, Tryz.results36, go_sem, *]) rfl ?_
    first
      | exact ⟨rfl, act_end' HS.out.1 HA3.out (turns_keep HB.out HS.out.2) (by omega) _ _⟩
      | exact ⟨rfl, act_end HS.out.1 HA3.out (turns_keep HB.out HS.out.2) (by omega) _ _⟩
  · go_enter Tryz.func36, Tryz.ntmps36
    go_upto_region 23 with (fail)
    have HX := Lib.hid ((Cells.new w 77 #[.int .i64 17, .int .i64 (a : Nat), .int .i64 (b : Nat), .int .i64 (c : Nat), .int .i64 n, .int .u64 (k : Nat)]).alloc (.cells #[.int .i64 0, .string ⟨#[]⟩] 56))
    have HA := Lib.hid (Cells.newAt (w.alloc (.cells #[.int .i64 17, .int .i64 (a : Nat), .int .i64 (b : Nat), .int .i64 (c : Nat), .int .i64 n, .int .u64 (k : Nat)] 77)) 56 #[.int .i64 0, .string ⟨#[]⟩] (w.heap.size + 1) (by simp))
    have HM := Lib.hid ((HM0.out.alloc (.cells #[.int .i64 17, .int .i64 (a : Nat), .int .i64 (b : Nat), .int .i64 (c : Nat), .int .i64 n, .int .u64 (k : Nat)] 77)).alloc (.cells #[.int .i64 0, .string ⟨#[]⟩] 56))
    have HB := Lib.hid (((Below.refl w.heap.size w).alloc (Nat.le_refl _) (.cells #[.int .i64 17, .int .i64 (a : Nat), .int .i64 (b : Nat), .int .i64 (c : Nat), .int .i64 n, .int .u64 (k : Nat)] 77)).alloc (by simp) (.cells #[.int .i64 0, .string ⟨#[]⟩] 56))
    generalize (w.alloc (.cells #[.int .i64 17, .int .i64 (a : Nat), .int .i64 (b : Nat), .int .i64 (c : Nat), .int .i64 n, .int .u64 (k : Nat)] 77)).alloc (.cells #[.int .i64 0, .string ⟨#[]⟩] 56) = w2 at *
    have hg1 : g ≠ w.heap.size := by omega
    have hg2 : g ≠ w.heap.size + 1 := by omega
    have HS := Lib.hid (And.intro HM.out (Turns.refl (mOwn g nv pv) w2))
    have HA3 := Lib.hid HA.out
    generalize w2 = w3 at *
    have a0 : w3.cell? ⟨w.heap.size + 1, 0, none⟩ = some (.int .i64 0) := HA3.out.cell (j := 0) rfl
    have a1 : w3.cell? ⟨w.heap.size + 1, 1, none⟩ = some (.string ⟨#[]⟩) := HA3.out.cell (j := 1) rfl
    have b0 := HA3.out.fz 0
    have b1 := HA3.out.fz 1
    go_wp2_with fail
    refine bodyPost_ret (v := .agg #[.int .i64 0, .string ⟨#[]⟩]) (by simp [results, Tryz.results36, go_sem, *]) rfl ?_
    first
      | exact ⟨rfl, act_end' HS.out.1 HA3.out (turns_keep HB.out HS.out.2) (by omega) _ _⟩
      | exact ⟨rfl, act_end HS.out.1 HA3.out (turns_keep HB.out HS.out.2) (by omega) _ _⟩
  · go_enter Tryz.func36, Tryz.ntmps36
    go_upto_region 23 with (fail)
    have HX := Lib.hid ((Cells.new w 77 #[.int .i64 18, .int .i64 (a : Nat), .int .i64 (b : Nat), .int .i64 (c : Nat), .int .i64 n, .int .u64 (k : Nat)]).alloc (.cells #[.int .i64 0, .string ⟨#[]⟩] 56))
    have HA := Lib.hid (Cells.newAt (w.alloc (.cells #[.int .i64 18, .int .i64 (a : Nat), .int .i64 (b : Nat), .int .i64 (c : Nat), .int .i64 n, .int .u64 (k : Nat)] 77)) 56 #[.int .i64 0, .string ⟨#[]⟩] (w.heap.size + 1) (by simp))
    have HM := Lib.hid ((HM0.out.alloc (.cells #[.int .i64 18, .int .i64 (a : Nat), .int .i64 (b : Nat), .int .i64 (c : Nat), .int .i64 n, .int .u64 (k : Nat)] 77)).alloc (.cells #[.int .i64 0, .string ⟨#[]⟩] 56))
    have HB := Lib.hid (((Below.refl w.heap.size w).alloc (Nat.le_refl _) (.cells #[.int .i64 18, .int .i64 (a : Nat), .int .i64 (b : Nat), .int .i64 (c : Nat), .int .i64 n, .int .u64 (k : Nat)] 77)).alloc (by simp) (.cells #[.int .i64 0, .string ⟨#[]⟩] 56))
    generalize (w.alloc (.cells #[.int .i64 18, .int .i64 (a : Nat), .int .i64 (b : Nat), .int .i64 (c : Nat), .int .i64 n, .int .u64 (k : Nat)] 77)).alloc (.cells #[.int .i64 0, .string ⟨#[]⟩] 56) = w2 at *
    have hg1 : g ≠ w.heap.size := by omega
    have hg2 : g ≠ w.heap.size + 1 := by omega
    have HS := Lib.hid (And.intro HM.out (Turns.refl (mOwn g nv pv) w2))
    have HA3 := Lib.hid HA.out
    generalize w2 = w3 at *
    have a0 : w3.cell? ⟨w.heap.size + 1, 0, none⟩ = some (.int .i64 0) := HA3.out.cell (j := 0) rfl
    have a1 : w3.cell? ⟨w.heap.size + 1, 1, none⟩ = some (.string ⟨#[]⟩) := HA3.out.cell (j := 1) rfl
    have b0 := HA3.out.fz 0
    have b1 := HA3.out.fz 1
    go_wp2_with fail
    refine bodyPost_ret (v := .agg #[.int .i64 0, .string ⟨#[]⟩]) (by simp [results, Tryz.results36, go_sem, *]) rfl ?_
    first
      | exact ⟨rfl, act_end' HS.out.1 HA3.out (turns_keep HB.out HS.out.2) (by omega) _ _⟩
      | exact ⟨rfl, act_end HS.out.1 HA3.out (turns_keep HB.out HS.out.2) (by omega) _ _⟩
  · go_enter Tryz.func36, Tryz.ntmps36
    go_upto_region 23 with (fail)
    have HX := Lib.hid ((Cells.new w 77 #[.int .i64 24, .int .i64 (a : Nat), .int .i64 (b : Nat), .int .i64 (c : Nat), .int .i64 n, .int .u64 (k : Nat)]).alloc (.cells #[.int .i64 0, .string ⟨#[]⟩] 56))
    have HA := Lib.hid (Cells.newAt (w.alloc (.cells #[.int .i64 24, .int .i64 (a : Nat), .int .i64 (b : Nat), .int .i64 (c : Nat), .int .i64 n, .int .u64 (k : Nat)] 77)) 56 #[.int .i64 0, .string ⟨#[]⟩] (w.heap.size + 1) (by simp))
    have HM := Lib.hid ((HM0.out.alloc (.cells #[.int .i64 24, .int .i64 (a : Nat), .int .i64 (b : Nat), .int .i64 (c : Nat), .int .i64 n, .int .u64 (k : Nat)] 77)).alloc (.cells #[.int .i64 0, .string ⟨#[]⟩] 56))
    have HB := Lib.hid (((Below.refl w.heap.size w).alloc (Nat.le_refl _) (.cells #[.int .i64 24, .int .i64 (a : Nat), .int .i64 (b : Nat), .int .i64 (c : Nat), .int .i64 n, .int .u64 (k : Nat)] 77)).alloc (by simp) (.cells #[.int .i64 0, .string ⟨#[]⟩] 56))
    generalize (w.alloc (.cells #[.int .i64 24, .int .i64 (a : Nat), .int .i64 (b : Nat), .int .i64 (c : Nat), .int .i64 n, .int .u64 (k : Nat)] 77)).alloc (.cells #[.int .i64 0, .string ⟨#[]⟩] 56) = w2 at *
    have hg1 : g ≠ w.heap.size := by omega
    have hg2 : g ≠ w.heap.size + 1 := by omega
    have HS := Lib.hid (And.intro HM.out (Turns.refl (mOwn g nv pv) w2))
    have HA3 := Lib.hid HA.out
    generalize w2 = w3 at *
    have a0 : w3.cell? ⟨w.heap.size + 1, 0, none⟩ = some (.int .i64 0) := HA3.out.cell (j := 0) rfl
    have a1 : w3.cell? ⟨w.heap.size + 1, 1, none⟩ = some (.string ⟨#[]⟩) := HA3.out.cell (j := 1) rfl
    have b0 := HA3.out.fz 0
    have b1 := HA3.out.fz 1
    go_wp2_with fail
    refine bodyPost_ret (v := .agg #[.int .i64 0, .string ⟨#[]⟩]) (by simp [results, Tryz.results36, go_sem, *]) rfl ?_
    first
      | exact ⟨rfl, act_end' HS.out.1 HA3.out (turns_keep HB.out HS.out.2) (by omega) _ _⟩
      | exact ⟨rfl, act_end HS.out.1 HA3.out (turns_keep HB.out HS.out.2) (by omega) _ _⟩

set_option maxRecDepth 100000 in
set_option maxHeartbeats 2000000 in
theorem do_fail {w : World} {g : Nat} {cs nv pv : Value} {m : Mach} (hM : Mw w g cs nv pv m) (hF : m.Fit) (a b c : Nat) (ha : a < 8) (hb : b < 8) (hc : c < 8) (n : Int) (k : Nat) : Calls Tryz.prog 36 #[.pointer (some ⟨g, 0, none⟩), .agg #[.int .i64 23, .int .i64 (a : Nat), .int .i64 (b : Nat), .int .i64 (c : Nat), .int .i64 n, .int .u64 (k : Nat)]] w fun e w' => e = .panicked (trapped 7) ∧ Mw w' g cs nv pv m ∧ Turns (mOwn g nv pv) w w' := by
  have HM0 := Lib.hid hM
  have hlt := hM.lt
  have HR := Lib.hid hF.rlen
  clear hM hF
  go_enter Tryz.func36, Tryz.ntmps36
  go_upto_region 22 with (fail)
  have HX := Lib.hid ((Cells.new w 77 #[.int .i64 23, .int .i64 (a : Nat), .int .i64 (b : Nat), .int .i64 (c : Nat), .int .i64 n, .int .u64 (k : Nat)]).alloc (.cells #[.int .i64 0, .string ⟨#[]⟩] 56))
  have HA := Lib.hid (Cells.newAt (w.alloc (.cells #[.int .i64 23, .int .i64 (a : Nat), .int .i64 (b : Nat), .int .i64 (c : Nat), .int .i64 n, .int .u64 (k : Nat)] 77)) 56 #[.int .i64 0, .string ⟨#[]⟩] (w.heap.size + 1) (by simp))
  have HM := Lib.hid ((HM0.out.alloc (.cells #[.int .i64 23, .int .i64 (a : Nat), .int .i64 (b : Nat), .int .i64 (c : Nat), .int .i64 n, .int .u64 (k : Nat)] 77)).alloc (.cells #[.int .i64 0, .string ⟨#[]⟩] 56))
  have HB := Lib.hid (((Below.refl w.heap.size w).alloc (Nat.le_refl _) (.cells #[.int .i64 23, .int .i64 (a : Nat), .int .i64 (b : Nat), .int .i64 (c : Nat), .int .i64 n, .int .u64 (k : Nat)] 77)).alloc (by simp) (.cells #[.int .i64 0, .string ⟨#[]⟩] 56))
  generalize (w.alloc (.cells #[.int .i64 23, .int .i64 (a : Nat), .int .i64 (b : Nat), .int .i64 (c : Nat), .int .i64 n, .int .u64 (k : Nat)] 77)).alloc (.cells #[.int .i64 0, .string ⟨#[]⟩] 56) = w2 at *
  have hg1 : g ≠ w.heap.size := by omega
  have hg2 : g ≠ w.heap.size + 1 := by omega
  go_wp2_with (go_at_call 58; with_reducible (refine (must_no _ _).mono ?_); rintro _ _ ⟨rfl, rfl⟩)
  exact ⟨rfl, rfl, HM.out, (Turns.of_below HB.out)⟩

set_option maxRecDepth 100000 in
set_option maxHeartbeats 2000000 in
theorem do_push_no {w : World} {g : Nat} {cs nv pv : Value} {m : Mach} (hM : Mw w g cs nv pv m) (hF : m.Fit) (a b c : Nat) (ha : a < 8) (hb : b < 8) (hc : c < 8) (n : Int) (k : Nat) (hfull : ¬ m.nums.length < 8) : Calls Tryz.prog 36 #[.pointer (some ⟨g, 0, none⟩), .agg #[.int .i64 19, .int .i64 (a : Nat), .int .i64 (b : Nat), .int .i64 (c : Nat), .int .i64 n, .int .u64 (k : Nat)]] w fun e w' => e = .panicked (trapped 2) ∧ Mw w' g cs nv pv m ∧ Turns (mOwn g nv pv) w w' := by
  have HM0 := Lib.hid hM
  have hlt := hM.lt
  have HR := Lib.hid hF.rlen
  obtain ⟨An, cap, rfl⟩ := own_slice hM.nums
  have c12 : w.cell? ⟨g, 12, none⟩ = some (.slice An m.nums.length cap) := hM.cells.cell (j := 12) rfl
  have t1 : ¬ (m.nums.length : Int) < 8 := by omega
  clear hM hF hfull
  go_enter Tryz.func36, Tryz.ntmps36
  go_upto_region 6 with (fail)
  have HX := Lib.hid ((Cells.new w 77 #[.int .i64 19, .int .i64 (a : Nat), .int .i64 (b : Nat), .int .i64 (c : Nat), .int .i64 n, .int .u64 (k : Nat)]).alloc (.cells #[.int .i64 0, .string ⟨#[]⟩] 56))
  have HA := Lib.hid (Cells.newAt (w.alloc (.cells #[.int .i64 19, .int .i64 (a : Nat), .int .i64 (b : Nat), .int .i64 (c : Nat), .int .i64 n, .int .u64 (k : Nat)] 77)) 56 #[.int .i64 0, .string ⟨#[]⟩] (w.heap.size + 1) (by simp))
  have HM := Lib.hid ((HM0.out.alloc (.cells #[.int .i64 19, .int .i64 (a : Nat), .int .i64 (b : Nat), .int .i64 (c : Nat), .int .i64 n, .int .u64 (k : Nat)] 77)).alloc (.cells #[.int .i64 0, .string ⟨#[]⟩] 56))
  have HB := Lib.hid (((Below.refl w.heap.size w).alloc (Nat.le_refl _) (.cells #[.int .i64 19, .int .i64 (a : Nat), .int .i64 (b : Nat), .int .i64 (c : Nat), .int .i64 n, .int .u64 (k : Nat)] 77)).alloc (by simp) (.cells #[.int .i64 0, .string ⟨#[]⟩] 56))
  generalize (w.alloc (.cells #[.int .i64 19, .int .i64 (a : Nat), .int .i64 (b : Nat), .int .i64 (c : Nat), .int .i64 n, .int .u64 (k : Nat)] 77)).alloc (.cells #[.int .i64 0, .string ⟨#[]⟩] 56) = w2 at *
  have hg1 : g ≠ w.heap.size := by omega
  have hg2 : g ≠ w.heap.size + 1 := by omega
  have d12 : w2.cell? ⟨g, 12, none⟩ = some (.slice An m.nums.length cap) := HM.out.cells.cell (j := 12) rfl
  go_wp2_with (go_at_call 58; with_reducible (refine (must_no _ _).mono ?_); rintro _ _ ⟨rfl, rfl⟩)
  exact ⟨rfl, rfl, HM.out, (Turns.of_below HB.out)⟩

set_option maxRecDepth 100000 in
set_option maxHeartbeats 2000000 in
theorem do_pop_no {w : World} {g : Nat} {cs nv pv : Value} {m : Mach} (hM : Mw w g cs nv pv m) (hF : m.Fit) (a b c : Nat) (ha : a < 8) (hb : b < 8) (hc : c < 8) (n : Int) (k : Nat) (hfull : ¬ 0 < m.nums.length) : Calls Tryz.prog 36 #[.pointer (some ⟨g, 0, none⟩), .agg #[.int .i64 20, .int .i64 (a : Nat), .int .i64 (b : Nat), .int .i64 (c : Nat), .int .i64 n, .int .u64 (k : Nat)]] w fun e w' => e = .panicked (trapped 3) ∧ Mw w' g cs nv pv m ∧ Turns (mOwn g nv pv) w w' := by
  have HM0 := Lib.hid hM
  have hlt := hM.lt
  have HR := Lib.hid hF.rlen
  have hz : m.nums.length = 0 := by omega
  obtain ⟨An, cap, hnv⟩ := own_slice hM.nums
  rw [hz] at hnv
  subst hnv
  have c12 : w.cell? ⟨g, 12, none⟩ = some (.slice An 0 cap) := hM.cells.cell (j := 12) rfl
  clear hM hF hfull
  go_enter Tryz.func36, Tryz.ntmps36
  go_upto_region 9 with (fail)
  have HX := Lib.hid ((Cells.new w 77 #[.int .i64 20, .int .i64 (a : Nat), .int .i64 (b : Nat), .int .i64 (c : Nat), .int .i64 n, .int .u64 (k : Nat)]).alloc (.cells #[.int .i64 0, .string ⟨#[]⟩] 56))
  have HA := Lib.hid (Cells.newAt (w.alloc (.cells #[.int .i64 20, .int .i64 (a : Nat), .int .i64 (b : Nat), .int .i64 (c : Nat), .int .i64 n, .int .u64 (k : Nat)] 77)) 56 #[.int .i64 0, .string ⟨#[]⟩] (w.heap.size + 1) (by simp))
  have HM := Lib.hid ((HM0.out.alloc (.cells #[.int .i64 20, .int .i64 (a : Nat), .int .i64 (b : Nat), .int .i64 (c : Nat), .int .i64 n, .int .u64 (k : Nat)] 77)).alloc (.cells #[.int .i64 0, .string ⟨#[]⟩] 56))
  have HB := Lib.hid (((Below.refl w.heap.size w).alloc (Nat.le_refl _) (.cells #[.int .i64 20, .int .i64 (a : Nat), .int .i64 (b : Nat), .int .i64 (c : Nat), .int .i64 n, .int .u64 (k : Nat)] 77)).alloc (by simp) (.cells #[.int .i64 0, .string ⟨#[]⟩] 56))
  generalize (w.alloc (.cells #[.int .i64 20, .int .i64 (a : Nat), .int .i64 (b : Nat), .int .i64 (c : Nat), .int .i64 n, .int .u64 (k : Nat)] 77)).alloc (.cells #[.int .i64 0, .string ⟨#[]⟩] 56) = w2 at *
  have hg1 : g ≠ w.heap.size := by omega
  have hg2 : g ≠ w.heap.size + 1 := by omega
  have d12 : w2.cell? ⟨g, 12, none⟩ = some (.slice An 0 cap) := HM.out.cells.cell (j := 12) rfl
  go_wp2_with (go_at_call 58; with_reducible (refine (must_no _ _).mono ?_); rintro _ _ ⟨rfl, rfl⟩)
  exact ⟨rfl, rfl, HM.out, (Turns.of_below HB.out)⟩

set_option maxRecDepth 100000 in
set_option maxHeartbeats 2000000 in
theorem do_emit_no {w : World} {g : Nat} {cs nv pv : Value} {m : Mach} (hM : Mw w g cs nv pv m) (hF : m.Fit) (a b c : Nat) (ha : a < 8) (hb : b < 8) (hc : c < 8) (n : Int) (k : Nat) (hfull : ¬ m.chunks < 32) : Calls Tryz.prog 36 #[.pointer (some ⟨g, 0, none⟩), .agg #[.int .i64 21, .int .i64 (a : Nat), .int .i64 (b : Nat), .int .i64 (c : Nat), .int .i64 n, .int .u64 (k : Nat)]] w fun e w' => e = .panicked (trapped 5) ∧ Mw w' g cs nv pv m ∧ Turns (mOwn g nv pv) w w' := by
  have HM0 := Lib.hid hM
  have hlt := hM.lt
  have HR := Lib.hid hF.rlen
  have t1 : ¬ (m.chunks : Int) < 32 := by omega
  clear hM hF hfull
  go_enter Tryz.func36, Tryz.ntmps36
  go_upto_region 14 with (fail)
  have HX := Lib.hid ((Cells.new w 77 #[.int .i64 21, .int .i64 (a : Nat), .int .i64 (b : Nat), .int .i64 (c : Nat), .int .i64 n, .int .u64 (k : Nat)]).alloc (.cells #[.int .i64 0, .string ⟨#[]⟩] 56))
  have HA := Lib.hid (Cells.newAt (w.alloc (.cells #[.int .i64 21, .int .i64 (a : Nat), .int .i64 (b : Nat), .int .i64 (c : Nat), .int .i64 n, .int .u64 (k : Nat)] 77)) 56 #[.int .i64 0, .string ⟨#[]⟩] (w.heap.size + 1) (by simp))
  have HM := Lib.hid ((HM0.out.alloc (.cells #[.int .i64 21, .int .i64 (a : Nat), .int .i64 (b : Nat), .int .i64 (c : Nat), .int .i64 n, .int .u64 (k : Nat)] 77)).alloc (.cells #[.int .i64 0, .string ⟨#[]⟩] 56))
  have HB := Lib.hid (((Below.refl w.heap.size w).alloc (Nat.le_refl _) (.cells #[.int .i64 21, .int .i64 (a : Nat), .int .i64 (b : Nat), .int .i64 (c : Nat), .int .i64 n, .int .u64 (k : Nat)] 77)).alloc (by simp) (.cells #[.int .i64 0, .string ⟨#[]⟩] 56))
  generalize (w.alloc (.cells #[.int .i64 21, .int .i64 (a : Nat), .int .i64 (b : Nat), .int .i64 (c : Nat), .int .i64 n, .int .u64 (k : Nat)] 77)).alloc (.cells #[.int .i64 0, .string ⟨#[]⟩] 56) = w2 at *
  have hg1 : g ≠ w.heap.size := by omega
  have hg2 : g ≠ w.heap.size + 1 := by omega
  have d14 : w2.cell? ⟨g, 14, none⟩ = some (.int .i64 (m.chunks : Nat)) := HM.out.cells.cell (j := 14) rfl
  go_wp2_with (go_at_call 58; with_reducible (refine (must_no _ _).mono ?_); rintro _ _ ⟨rfl, rfl⟩)
  exact ⟨rfl, rfl, HM.out, (Turns.of_below HB.out)⟩

set_option maxRecDepth 100000 in
set_option maxHeartbeats 2000000 in
theorem do_write_no {w : World} {g : Nat} {cs nv pv : Value} {m : Mach} (hM : Mw w g cs nv pv m) (hF : m.Fit) (a b c : Nat) (ha : a < 8) (hb : b < 8) (hc : c < 8) (n : Int) (k : Nat) (hfull : ¬ m.pieces < 16) : Calls Tryz.prog 36 #[.pointer (some ⟨g, 0, none⟩), .agg #[.int .i64 22, .int .i64 (a : Nat), .int .i64 (b : Nat), .int .i64 (c : Nat), .int .i64 n, .int .u64 (k : Nat)]] w fun e w' => e = .panicked (trapped 6) ∧ Mw w' g cs nv pv m ∧ Turns (mOwn g nv pv) w w' := by
  have HM0 := Lib.hid hM
  have hlt := hM.lt
  have HR := Lib.hid hF.rlen
  have t1 : ¬ (m.pieces : Int) < 16 := by omega
  clear hM hF hfull
  go_enter Tryz.func36, Tryz.ntmps36
  go_upto_region 18 with (fail)
  have HX := Lib.hid ((Cells.new w 77 #[.int .i64 22, .int .i64 (a : Nat), .int .i64 (b : Nat), .int .i64 (c : Nat), .int .i64 n, .int .u64 (k : Nat)]).alloc (.cells #[.int .i64 0, .string ⟨#[]⟩] 56))
  have HA := Lib.hid (Cells.newAt (w.alloc (.cells #[.int .i64 22, .int .i64 (a : Nat), .int .i64 (b : Nat), .int .i64 (c : Nat), .int .i64 n, .int .u64 (k : Nat)] 77)) 56 #[.int .i64 0, .string ⟨#[]⟩] (w.heap.size + 1) (by simp))
  have HM := Lib.hid ((HM0.out.alloc (.cells #[.int .i64 22, .int .i64 (a : Nat), .int .i64 (b : Nat), .int .i64 (c : Nat), .int .i64 n, .int .u64 (k : Nat)] 77)).alloc (.cells #[.int .i64 0, .string ⟨#[]⟩] 56))
  have HB := Lib.hid (((Below.refl w.heap.size w).alloc (Nat.le_refl _) (.cells #[.int .i64 22, .int .i64 (a : Nat), .int .i64 (b : Nat), .int .i64 (c : Nat), .int .i64 n, .int .u64 (k : Nat)] 77)).alloc (by simp) (.cells #[.int .i64 0, .string ⟨#[]⟩] 56))
  generalize (w.alloc (.cells #[.int .i64 22, .int .i64 (a : Nat), .int .i64 (b : Nat), .int .i64 (c : Nat), .int .i64 n, .int .u64 (k : Nat)] 77)).alloc (.cells #[.int .i64 0, .string ⟨#[]⟩] 56) = w2 at *
  have hg1 : g ≠ w.heap.size := by omega
  have hg2 : g ≠ w.heap.size + 1 := by omega
  have d14 : w2.cell? ⟨g, 15, none⟩ = some (.int .i64 (m.pieces : Nat)) := HM.out.cells.cell (j := 15) rfl
  go_wp2_with (go_at_call 58; with_reducible (refine (must_no _ _).mono ?_); rintro _ _ ⟨rfl, rfl⟩)
  exact ⟨rfl, rfl, HM.out, (Turns.of_below HB.out)⟩

end Go.Proofs.YtjloiclbknfomaaGreatDoor
