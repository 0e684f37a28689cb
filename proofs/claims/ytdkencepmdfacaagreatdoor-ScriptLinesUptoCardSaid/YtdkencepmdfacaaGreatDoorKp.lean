/- prog.Check: what is wrong with a program (contracts of forms, wrong, Check). -/
import Derived.Test.YtdkencepmdfacaaGreatDoorGr4
import Derived.Test.YtdkencepmdfacaaGreatDoorKa
import Derived.Deep.QuietTactic
import Derived.Deep.DeepCutAuto
import Derived.Deep.RegionWith
import Derived.BigQuiet
set_option maxRecDepth 100000
namespace Go.Proofs.YtdkencepmdfacaaGreatDoor
open Go.RowKit Ieee

abbrev txt (l : List UInt8) : Value := .string ⟨l.toArray⟩
/-- the words of the ops -/
def opWord : Nat → List UInt8
  | 1 => [115, 101, 116] | 2 => [109, 111, 118, 101] | 3 => [97, 100, 100] | 4 => [115, 117, 98] | 5 => [109, 117, 108] | 6 => [100, 105, 118] | 7 => [109, 105, 110] | 8 => [109, 97, 120] | 9 => [108, 101, 115, 115]
  | 10 => [111, 114, 100, 101, 114] | 11 => [110, 101, 103] | 12 => [97, 98, 115] | 13 => [102, 108, 111, 111, 114] | 14 => [106, 117, 109, 112] | 15 => [105, 102] | 16 => [103, 111, 116, 111] | 17 => [99, 97, 108, 108] | 18 => [114, 101, 116]
  | 19 => [112, 117, 115, 104] | 20 => [112, 111, 112] | 21 => [101, 109, 105, 116] | 22 => [119, 114, 105, 116, 101] | 23 => [102, 97, 105, 108] | 24 => [104, 97, 108, 116] | _ => []
def formCells (o : Nat) : List Value := [txt (opWord o), .int .i64 (opRegs o), .bool (opN o), .bool (opK o)]
def formsCells : Array Value := ((List.range 25).flatMap formCells).toArray

theorem forms_any (w : World) : Calls Tryz.prog 63 #[] w fun e w' => e = .returned (.slice (some ⟨w.heap.size, 0, none⟩) 25 25) ∧ w' = w.alloc (.cells formsCells 104) :=
  calls_run 1000 (fn := Tryz.f63) Tryz.func63 (fun cs => by kernel_rfl)

theorem forms_in (w : World) : Calls Tryz.prog 63 #[] w fun e w' => ∃ b, e = .returned (.slice (some ⟨b, 0, none⟩) 25 25) ∧ w.heap.size ≤ b ∧ Cells w' b 104 formsCells ∧ Below w.heap.size w w' :=
  (forms_any w).mono fun _ _ ⟨he, hw⟩ => ⟨_, he, Nat.le_refl _, hw ▸ Cells.new _ _ _, hw ▸ (Below.refl _ _).alloc (Nat.le_refl _) _⟩
theorem forms_cell {o : Nat} (ho : o < 25) (j : Nat) (hj : j < 4) : formsCells[o * 4 + j]? = (formCells o)[j]? := by
  have key : ∀ o : Fin 25, ∀ j : Fin 4, formsCells[o.val * 4 + j.val]? = (formCells o.val)[j.val]? := by
    intro o j
    match o, j with
    | ⟨o, h⟩, ⟨0, _⟩ => revert o; intro o h; rcases o with _ | _ | _ | _ | _ | _ | _ | _ | _ | _ | _ | _ | _ | _ | _ | _ | _ | _ | _ | _ | _ | _ | _ | _ | _ | o <;> first | rfl | omega
    | ⟨o, h⟩, ⟨1, _⟩ => revert o; intro o h; rcases o with _ | _ | _ | _ | _ | _ | _ | _ | _ | _ | _ | _ | _ | _ | _ | _ | _ | _ | _ | _ | _ | _ | _ | _ | _ | o <;> first | rfl | omega
    | ⟨o, h⟩, ⟨2, _⟩ => revert o; intro o h; rcases o with _ | _ | _ | _ | _ | _ | _ | _ | _ | _ | _ | _ | _ | _ | _ | _ | _ | _ | _ | _ | _ | _ | _ | _ | _ | o <;> first | rfl | omega
    | ⟨o, h⟩, ⟨3, _⟩ => revert o; intro o h; rcases o with _ | _ | _ | _ | _ | _ | _ | _ | _ | _ | _ | _ | _ | _ | _ | _ | _ | _ | _ | _ | _ | _ | _ | _ | _ | o <;> first | rfl | omega
  exact key ⟨o, ho⟩ ⟨j, hj⟩
/-- a row of forms, op by op -/
theorem forms_at {w : World} {b : Nat} (h : Cells w b 104 formsCells) {o : Nat} (ho : o < 25) :
    w.cell? ⟨b, o * 4, none⟩ = some (.string ⟨(opWord o).toArray⟩) ∧ w.cell? ⟨b, o * 4 + 1, none⟩ = some (.int .i64 (opRegs o)) ∧ w.cell? ⟨b, o * 4 + 2, none⟩ = some (.bool (opN o)) ∧ w.cell? ⟨b, o * 4 + 3, none⟩ = some (.bool (opK o)) :=
  ⟨h.cell (forms_cell ho 0 (by decide)), h.cell (forms_cell ho 1 (by decide)), h.cell (forms_cell ho 2 (by decide)), h.cell (forms_cell ho 3 (by decide))⟩

theorem form_end {w wq : World} {B g gx : Nat} {t tx : TypeId} {X : Array Value} {a b c d a' b' c' d' : Value} (hZ : Cells wq g t #[a', b', c', d']) (hX : Cells wq gx tx X) (hlt : gx < g) (hB : Below B w wq) (hg : B ≤ g) :
    Cells ((((wq.setCell ⟨g, 0, none⟩ a).setCell ⟨g, 1, none⟩ b).setCell ⟨g, 2, none⟩ c).setCell ⟨g, 3, none⟩ d) g t #[a, b, c, d] ∧ Cells ((((wq.setCell ⟨g, 0, none⟩ a).setCell ⟨g, 1, none⟩ b).setCell ⟨g, 2, none⟩ c).setCell ⟨g, 3, none⟩ d) gx tx X ∧ Below B w ((((wq.setCell ⟨g, 0, none⟩ a).setCell ⟨g, 1, none⟩ b).setCell ⟨g, 2, none⟩ c).setCell ⟨g, 3, none⟩ d) :=
  have hne : gx ≠ g := by omega
  ⟨(((hZ.set 0 a).set 1 b).set 2 c).set 3 d, (((hX.far hne a).far hne b).far hne c).far hne d, (((hB.setCell hg a).setCell hg b).setCell hg c).setCell hg d⟩

def regV (a b c : Int) : Nat → Int | 0 => a | 1 => b | _ => c
theorem wrong_reg {op a b c n : Int} {k many i : Nat} (hop : ¬ (op < 1 ∨ 25 ≤ op)) (hi : i < 3) (h : ∀ j, j < i → regBad (opRegs op) j (regV a b c j) = 0) (hb : regBad (opRegs op) i (regV a b c i) ≠ 0) : insWrong ⟨op, a, b, c, n, k⟩ many = regBad (opRegs op) i (regV a b c i) := by
  unfold insWrong
  rw [if_neg hop]
  match i, hi with
  | 0, _ => exact if_pos hb
  | 1, _ =>
    have h0 := h 0 (by omega)
    rw [if_neg (by simpa [regV] using h0)]
    exact if_pos hb
  | 2, _ =>
    have h0 := h 0 (by omega)
    have h1 := h 1 (by omega)
    rw [if_neg (by simpa [regV] using h0), if_neg (by simpa [regV] using h1)]
    exact if_pos hb
theorem wrong_tail {op a b c n : Int} {k many : Nat} (hop : ¬ (op < 1 ∨ 25 ≤ op)) (h : ∀ j : Nat, j < 3 → regBad (opRegs op) j (regV a b c j) = 0) : insWrong ⟨op, a, b, c, n, k⟩ many = if opN op = false ∧ n ≠ 0 then 54 else if n < 0 ∨ (many : Int) < n then 53 else if (opK op = false ∧ k ≠ 0) ∨ fcan k ≠ k then 54 else 0 := by
  unfold insWrong
  have h0 := h 0 (by omega)
  have h1 := h 1 (by omega)
  have h2 := h 2 (by omega)
  rw [if_neg hop, if_neg (by simpa [regV] using h0), if_neg (by simpa [regV] using h1), if_neg (by simpa [regV] using h2)]
theorem canon_fcan (k : Nat) : canon (k : Int) = ((fcan k : Nat) : Int) := by
  unfold canon fcan isN infB signB nanB
  by_cases h : 9218868437227405312 < k % 9223372036854775808
  · rw [if_pos (by omega), if_pos (by simpa using h)]
    rfl
  · rw [if_neg (by omega), if_neg (by simpa using h)]
theorem kcan_any {k : Nat} (hk : k < 2 * signB) (w : World) : Calls Tryz.prog 147 #[.int .u64 (k : Nat)] w fun e w' => e = .returned (.int .u64 ((fcan k : Nat) : Int)) ∧ w' = w := by
  have h := canon_any (k : Int) w (by omega) (by unfold signB at hk; omega)
  rw [canon_fcan] at h
  exact h.mono fun _ _ h => ⟨h.1, h.2.symm⟩
def Ins.val (x : Ins) : Value := .agg #[.int .i64 x.op, .int .i64 x.a, .int .i64 x.b, .int .i64 x.c, .int .i64 x.n, .int .u64 x.k]

set_option maxHeartbeats 4000000 in
theorem wrong_any (op a b c n : Int) (k many : Nat) (w : World) (hk : k < 2 * signB) (hm : many ≤ 64) :
    Calls Tryz.prog 100 #[.agg #[.int .i64 op, .int .i64 a, .int .i64 b, .int .i64 c, .int .i64 n, .int .u64 k], .int .i64 (many : Nat)] w fun e w' => e = .returned (.int .i64 (insWrong ⟨op, a, b, c, n, k⟩ many)) ∧ Below w.heap.size w w' := by
  have HW : Hid (insWrong ⟨op, a, b, c, n, k⟩ many = insWrong ⟨op, a, b, c, n, k⟩ many) := Lib.hid rfl
  by_cases h1 : op < 1 ∨ 25 ≤ op
  · have e0 : insWrong ⟨op, a, b, c, n, k⟩ many = 51 := by unfold insWrong; exact if_pos h1
    rw [e0]
    clear HW e0
    by_cases h2 : op < 1
    · clear h1
      go_enter Tryz.func100, Tryz.ntmps100
      go_wp2
      go_ret
      exact ⟨rfl, (Below.refl _ _).alloc (Nat.le_refl _) _⟩
    · have h3 : 25 ≤ op := by omega
      clear h1
      go_enter Tryz.func100, Tryz.ntmps100
      go_wp2
      go_ret
      exact ⟨rfl, (Below.refl _ _).alloc (Nat.le_refl _) _⟩
  · obtain ⟨o, rfl⟩ := Int.eq_ofNat_of_zero_le (show 0 ≤ op by omega)
    have ho : o < 25 := by omega
    have h2 : ¬ (o : Int) < 1 := by omega
    have h3 : ¬ (25 : Int) ≤ o := by omega
    go_enter Tryz.func100, Tryz.ntmps100
    go_upto_region 3 with (fail)
    go_cut [5] (fun s5 wx => ∃ b5, s5 = .pointer (some ⟨b5, 0, none⟩) ∧ w.heap.size < b5 ∧ Cells wx b5 104 (formCells o).toArray ∧ Cells wx w.heap.size 102 #[.int .i64 o, .int .i64 a, .int .i64 b, .int .i64 c, .int .i64 n, .int .u64 k] ∧ Below w.heap.size w wx)
    case first =>
      have hi0 : (0 : Int) ≤ o := by omega
      have hi1 : (o : Int) < 25 := by omega
      have HX := Lib.hid (Cells.new w 102 #[.int .i64 o, .int .i64 a, .int .i64 b, .int .i64 c, .int .i64 n, .int .u64 k])
      have HB := Lib.hid ((Below.refl w.heap.size w).alloc (Nat.le_refl _) (.cells #[.int .i64 o, .int .i64 a, .int .i64 b, .int .i64 c, .int .i64 n, .int .u64 k] 102))
      generalize w.alloc (.cells #[.int .i64 o, .int .i64 a, .int .i64 b, .int .i64 c, .int .i64 n, .int .u64 k] 102) = w1 at *
      have y0 : w1.cell? ⟨w.heap.size, 0, none⟩ = some (.int .i64 (o : Int)) := HX.out.cell (j := 0) rfl
      have y0d : w1.drew.cell? ⟨w.heap.size, 0, none⟩ = some (.int .i64 (o : Int)) := y0
      have y0a : ∀ Z, (w1.alloc Z).cell? ⟨w.heap.size, 0, none⟩ = some (.int .i64 (o : Int)) := fun Z => (HX.out.alloc Z).cell (j := 0) rfl
      have y0ad : ∀ Z, (w1.alloc Z).drew.cell? ⟨w.heap.size, 0, none⟩ = some (.int .i64 (o : Int)) := y0a
      refine wp_region_held_drew (S := fun w' => w'.cell? ⟨w.heap.size, 0, none⟩ = some (.int .i64 (o : Int))) (by kernel_rfl) y0 (fun hS => ?_)
      refine wpAnyH_take (i := 1) (v := ?_) rfl (by kernel_rfl) (by kernel_rfl) (by kernel_rfl) (fun _ _ _ h => h) (Or.inl ⟨by rfl, ?_⟩) hS ?_
      rotate_left
      · (intro wx hSx; (try dsimp only at hSx); go_simp; (try with_reducible rfl))
      simp only [List.getElem_toArray, List.getElem_cons_succ, List.getElem_cons_zero, Act.put, List.setIfInBounds_toArray, List.set_cons_zero, List.set_cons_succ]
      refine wpAnyH_take (i := 2) (v := ?_) rfl (by kernel_rfl) (by kernel_rfl) (by kernel_rfl) (fun _ _ _ h => h) (Or.inl ⟨by rfl, ?_⟩) hS ?_
      rotate_left
      · (intro wx hSx; (try dsimp only at hSx); go_simp; (try with_reducible rfl))
      simp only [List.getElem_toArray, List.getElem_cons_succ, List.getElem_cons_zero, Act.put, List.setIfInBounds_toArray, List.set_cons_zero, List.set_cons_succ]
      refine wpAnyH_ready (rs := [0, 5]) (by kernel_rfl) (by simp) ?_
      refine AllReadyH.cons rfl (fun K hK => ?_) (AllReadyH.cons rfl (fun K hK => ?_) AllReadyH.nil)
      · go_simp
        go_at_call 63
        refine (forms_in _).mono ?_
        rintro _ wq ⟨bq, rfl, hlq, hFq, hBq⟩
        have HXq := Lib.hid (show Cells wq w.heap.size 102 #[.int .i64 o, .int .i64 a, .int .i64 b, .int .i64 c, .int .i64 n, .int .u64 k] from by first | exact Cells.keep HX.out.drew hBq | exact Cells.keep (HX.out.alloc _).drew hBq | exact Cells.keep (HX.out.drew.alloc _).drew hBq)
        have xq : wq.cell? ⟨w.heap.size, 0, none⟩ = some (.int .i64 (o : Int)) := HXq.out.cell (j := 0) rfl
        have xqa : ∀ Z, (wq.alloc Z).cell? ⟨w.heap.size, 0, none⟩ = some (.int .i64 (o : Int)) := fun Z => (HXq.out.alloc Z).cell (j := 0) rfl
        have xqs : ∀ e1 e2 e3 e4, ((((wq.setCell ⟨w1.heap.size, 0, none⟩ e1).setCell ⟨w1.heap.size, 1, none⟩ e2).setCell ⟨w1.heap.size, 2, none⟩ e3).setCell ⟨w1.heap.size, 3, none⟩ e4).cell? ⟨w.heap.size, 0, none⟩ = some (.int .i64 (o : Int)) := fun e1 e2 e3 e4 => ((((HXq.out.far (a := ⟨w1.heap.size, 0, none⟩) (Nat.ne_of_lt HX.out.lt) e1).far (a := ⟨w1.heap.size, 1, none⟩) (Nat.ne_of_lt HX.out.lt) e2).far (a := ⟨w1.heap.size, 2, none⟩) (Nat.ne_of_lt HX.out.lt) e3).far (a := ⟨w1.heap.size, 3, none⟩) (Nat.ne_of_lt HX.out.lt) e4).cell (j := 0) rfl
        obtain ⟨q0, q1, q2, q3⟩ := forms_at hFq ho
        have r0 := fun Z => (forms_at (hFq.alloc Z) ho).1
        have r1 := fun Z => (forms_at (hFq.alloc Z) ho).2.1
        have r2 := fun Z => (forms_at (hFq.alloc Z) ho).2.2.1
        have r3 := fun Z => (forms_at (hFq.alloc Z) ho).2.2.2
        try (have HZq := Lib.hid (show Cells wq w1.heap.size 104 #[.string ⟨#[]⟩, .int .i64 0, .bool false, .bool false] from Cells.keep (Cells.new w1 _ _).drew hBq); have z0 := HZq.out.cell (j := 0) rfl; have z1 := HZq.out.cell (j := 1) rfl; have z2 := HZq.out.cell (j := 2) rfl; have z3 := HZq.out.cell (j := 3) rfl; have f0 := HZq.out.fz 0; have f1 := HZq.out.fz 1; have f2 := HZq.out.fz 2; have f3 := HZq.out.fz 3)
        have HBw := Lib.hid (show Below w.heap.size w wq from by first | exact grow_to HB.out.drew hBq | exact grow_to (HB.out.alloc HB.out.size _).drew hBq)
        have HFq := Lib.hid hFq
        have HBq := Lib.hid hBq
        have HLq := Lib.hid hlq
        clear hFq hBq hlq
        refine hK.out _ _ (by first | with_reducible exact y0 | with_reducible exact y0d | with_reducible exact y0a _ | with_reducible exact y0ad _ | with_reducible exact xq | with_reducible exact xqa _ | with_reducible exact xqs _ _ _ _) (fun hS => ?_)
        clear hK K
        try simp only [Act.put, List.setIfInBounds_toArray, List.set_cons_zero, List.set_cons_succ]
        refine wpAnyH_take (i := 3) (v := ?_) rfl (by kernel_rfl) (by kernel_rfl) (by kernel_rfl) (fun _ _ _ h => h) (Or.inl ⟨by rfl, ?_⟩) hS ?_
        rotate_left
        · (intro wx hSx; (try dsimp only at hSx); go_simp; (try with_reducible rfl))
        simp only [List.getElem_toArray, List.getElem_cons_succ, List.getElem_cons_zero, Act.put, List.setIfInBounds_toArray, List.set_cons_zero, List.set_cons_succ]
        refine wpAnyH_ready (rs := [4, 5]) (by kernel_rfl) (by simp) ?_
        refine AllReadyH.cons rfl (fun K hK => ?_) (AllReadyH.cons rfl (fun K hK => ?_) AllReadyH.nil)
        · go_simp
          refine hK.out _ _ (by first | with_reducible exact y0 | with_reducible exact y0d | with_reducible exact y0a _ | with_reducible exact y0ad _ | with_reducible exact xq | with_reducible exact xqa _ | with_reducible exact xqs _ _ _ _) (fun hS => ?_)
          clear hK K
          try simp only [Act.put, List.setIfInBounds_toArray, List.set_cons_zero, List.set_cons_succ]
          refine wpAnyH_ready (rs := [5]) (by kernel_rfl) (by simp) ?_
          refine AllReadyH.cons rfl (fun K hK => ?_) AllReadyH.nil
          go_simp
          refine hK.out _ _ (by first | with_reducible exact y0 | with_reducible exact y0d | with_reducible exact y0a _ | with_reducible exact y0ad _ | with_reducible exact xq | with_reducible exact xqa _ | with_reducible exact xqs _ _ _ _) (fun hS => ?_)
          clear hK K
          try simp only [Act.put, List.setIfInBounds_toArray, List.set_cons_zero, List.set_cons_succ]
          refine wpAnyH_ready (rs := [6]) (by kernel_rfl) (by simp) ?_
          refine AllReadyH.cons rfl (fun K hK => ?_) AllReadyH.nil
          go_simp
          refine hK.out _ _ (by first | with_reducible exact y0 | with_reducible exact y0d | with_reducible exact y0a _ | with_reducible exact y0ad _ | with_reducible exact xq | with_reducible exact xqa _ | with_reducible exact xqs _ _ _ _) (fun hS => ?_)
          clear hK K
          try simp only [Act.put, List.setIfInBounds_toArray, List.set_cons_zero, List.set_cons_succ]
          refine wpAnyH_done (by kernel_rfl) ?_ _
          go_wp2_with fail
          go_meet
          first
            | exact ⟨_, rfl, Nat.lt_of_lt_of_le HX.out.lt HBq.out.size, Cells.new _ _ _, HXq.out.alloc _, HBw.out.alloc HBw.out.size _⟩
            | exact ⟨_, rfl, HX.out.lt, form_end HZq.out HXq.out HX.out.lt HBw.out (Nat.le_of_lt HX.out.lt)⟩
        · go_simp
          refine hK.out _ _ (by first | with_reducible exact y0 | with_reducible exact y0d | with_reducible exact y0a _ | with_reducible exact y0ad _ | with_reducible exact xq | with_reducible exact xqa _ | with_reducible exact xqs _ _ _ _) (fun hS => ?_)
          clear hK K
          try simp only [Act.put, List.setIfInBounds_toArray, List.set_cons_zero, List.set_cons_succ]
          refine wpAnyH_ready (rs := [4]) (by kernel_rfl) (by simp) ?_
          refine AllReadyH.cons rfl (fun K hK => ?_) AllReadyH.nil
          go_simp
          refine hK.out _ _ (by first | with_reducible exact y0 | with_reducible exact y0d | with_reducible exact y0a _ | with_reducible exact y0ad _ | with_reducible exact xq | with_reducible exact xqa _ | with_reducible exact xqs _ _ _ _) (fun hS => ?_)
          clear hK K
          try simp only [Act.put, List.setIfInBounds_toArray, List.set_cons_zero, List.set_cons_succ]
          refine wpAnyH_ready (rs := [6]) (by kernel_rfl) (by simp) ?_
          refine AllReadyH.cons rfl (fun K hK => ?_) AllReadyH.nil
          go_simp
          refine hK.out _ _ (by first | with_reducible exact y0 | with_reducible exact y0d | with_reducible exact y0a _ | with_reducible exact y0ad _ | with_reducible exact xq | with_reducible exact xqa _ | with_reducible exact xqs _ _ _ _) (fun hS => ?_)
          clear hK K
          try simp only [Act.put, List.setIfInBounds_toArray, List.set_cons_zero, List.set_cons_succ]
          refine wpAnyH_done (by kernel_rfl) ?_ _
          go_wp2_with fail
          go_meet
          first
            | exact ⟨_, rfl, Nat.lt_of_lt_of_le HX.out.lt HBq.out.size, Cells.new _ _ _, HXq.out.alloc _, HBw.out.alloc HBw.out.size _⟩
            | exact ⟨_, rfl, HX.out.lt, form_end HZq.out HXq.out HX.out.lt HBw.out (Nat.le_of_lt HX.out.lt)⟩
      · go_simp
        refine hK.out _ _ (by first | with_reducible exact y0 | with_reducible exact y0d | with_reducible exact y0a _ | with_reducible exact y0ad _ | with_reducible exact xq | with_reducible exact xqa _ | with_reducible exact xqs _ _ _ _) (fun hS => ?_)
        clear hK K
        try simp only [Act.put, List.setIfInBounds_toArray, List.set_cons_zero, List.set_cons_succ]
        refine wpAnyH_ready (rs := [0]) (by kernel_rfl) (by simp) ?_
        refine AllReadyH.cons rfl (fun K hK => ?_) AllReadyH.nil
        go_simp
        go_at_call 63
        refine (forms_in _).mono ?_
        rintro _ wq ⟨bq, rfl, hlq, hFq, hBq⟩
        have HXq := Lib.hid (show Cells wq w.heap.size 102 #[.int .i64 o, .int .i64 a, .int .i64 b, .int .i64 c, .int .i64 n, .int .u64 k] from by first | exact Cells.keep HX.out.drew hBq | exact Cells.keep (HX.out.alloc _).drew hBq | exact Cells.keep (HX.out.drew.alloc _).drew hBq)
        have xq : wq.cell? ⟨w.heap.size, 0, none⟩ = some (.int .i64 (o : Int)) := HXq.out.cell (j := 0) rfl
        have xqa : ∀ Z, (wq.alloc Z).cell? ⟨w.heap.size, 0, none⟩ = some (.int .i64 (o : Int)) := fun Z => (HXq.out.alloc Z).cell (j := 0) rfl
        have xqs : ∀ e1 e2 e3 e4, ((((wq.setCell ⟨w1.heap.size, 0, none⟩ e1).setCell ⟨w1.heap.size, 1, none⟩ e2).setCell ⟨w1.heap.size, 2, none⟩ e3).setCell ⟨w1.heap.size, 3, none⟩ e4).cell? ⟨w.heap.size, 0, none⟩ = some (.int .i64 (o : Int)) := fun e1 e2 e3 e4 => ((((HXq.out.far (a := ⟨w1.heap.size, 0, none⟩) (Nat.ne_of_lt HX.out.lt) e1).far (a := ⟨w1.heap.size, 1, none⟩) (Nat.ne_of_lt HX.out.lt) e2).far (a := ⟨w1.heap.size, 2, none⟩) (Nat.ne_of_lt HX.out.lt) e3).far (a := ⟨w1.heap.size, 3, none⟩) (Nat.ne_of_lt HX.out.lt) e4).cell (j := 0) rfl
        obtain ⟨q0, q1, q2, q3⟩ := forms_at hFq ho
        have r0 := fun Z => (forms_at (hFq.alloc Z) ho).1
        have r1 := fun Z => (forms_at (hFq.alloc Z) ho).2.1
        have r2 := fun Z => (forms_at (hFq.alloc Z) ho).2.2.1
        have r3 := fun Z => (forms_at (hFq.alloc Z) ho).2.2.2
        try (have HZq := Lib.hid (show Cells wq w1.heap.size 104 #[.string ⟨#[]⟩, .int .i64 0, .bool false, .bool false] from Cells.keep (Cells.new w1 _ _).drew hBq); have z0 := HZq.out.cell (j := 0) rfl; have z1 := HZq.out.cell (j := 1) rfl; have z2 := HZq.out.cell (j := 2) rfl; have z3 := HZq.out.cell (j := 3) rfl; have f0 := HZq.out.fz 0; have f1 := HZq.out.fz 1; have f2 := HZq.out.fz 2; have f3 := HZq.out.fz 3)
        have HBw := Lib.hid (show Below w.heap.size w wq from by first | exact grow_to HB.out.drew hBq | exact grow_to (HB.out.alloc HB.out.size _).drew hBq)
        have HFq := Lib.hid hFq
        have HBq := Lib.hid hBq
        have HLq := Lib.hid hlq
        clear hFq hBq hlq
        refine hK.out _ _ (by first | with_reducible exact y0 | with_reducible exact y0d | with_reducible exact y0a _ | with_reducible exact y0ad _ | with_reducible exact xq | with_reducible exact xqa _ | with_reducible exact xqs _ _ _ _) (fun hS => ?_)
        clear hK K
        try simp only [Act.put, List.setIfInBounds_toArray, List.set_cons_zero, List.set_cons_succ]
        refine wpAnyH_take (i := 3) (v := ?_) rfl (by kernel_rfl) (by kernel_rfl) (by kernel_rfl) (fun _ _ _ h => h) (Or.inl ⟨by rfl, ?_⟩) hS ?_
        rotate_left
        · (intro wx hSx; (try dsimp only at hSx); go_simp; (try with_reducible rfl))
        simp only [List.getElem_toArray, List.getElem_cons_succ, List.getElem_cons_zero, Act.put, List.setIfInBounds_toArray, List.set_cons_zero, List.set_cons_succ]
        refine wpAnyH_ready (rs := [4]) (by kernel_rfl) (by simp) ?_
        refine AllReadyH.cons rfl (fun K hK => ?_) AllReadyH.nil
        go_simp
        refine hK.out _ _ (by first | with_reducible exact y0 | with_reducible exact y0d | with_reducible exact y0a _ | with_reducible exact y0ad _ | with_reducible exact xq | with_reducible exact xqa _ | with_reducible exact xqs _ _ _ _) (fun hS => ?_)
        clear hK K
        try simp only [Act.put, List.setIfInBounds_toArray, List.set_cons_zero, List.set_cons_succ]
        refine wpAnyH_ready (rs := [6]) (by kernel_rfl) (by simp) ?_
        refine AllReadyH.cons rfl (fun K hK => ?_) AllReadyH.nil
        go_simp
        refine hK.out _ _ (by first | with_reducible exact y0 | with_reducible exact y0d | with_reducible exact y0a _ | with_reducible exact y0ad _ | with_reducible exact xq | with_reducible exact xqa _ | with_reducible exact xqs _ _ _ _) (fun hS => ?_)
        clear hK K
        try simp only [Act.put, List.setIfInBounds_toArray, List.set_cons_zero, List.set_cons_succ]
        refine wpAnyH_done (by kernel_rfl) ?_ _
        go_wp2_with fail
        go_meet
        first
          | exact ⟨_, rfl, Nat.lt_of_lt_of_le HX.out.lt HBq.out.size, Cells.new _ _ _, HXq.out.alloc _, HBw.out.alloc HBw.out.size _⟩
          | exact ⟨_, rfl, HX.out.lt, form_end HZq.out HXq.out HX.out.lt HBw.out (Nat.le_of_lt HX.out.lt)⟩
    case rest =>
      obtain ⟨b5, rfl, hlt, hF, hX, hB⟩ := hcut
      have HB := Lib.hid hB
      have HF := Lib.hid hF
      have HX := Lib.hid hX
      have x1 : wc.cell? ⟨w.heap.size, 1, none⟩ = some (.int .i64 a) := hX.cell (j := 1) rfl
      have x2 : wc.cell? ⟨w.heap.size, 2, none⟩ = some (.int .i64 b) := hX.cell (j := 2) rfl
      have x3 : wc.cell? ⟨w.heap.size, 3, none⟩ = some (.int .i64 c) := hX.cell (j := 3) rfl
      clear hF hX hB HW h2 h3
      go_wp2
      have HS := Lib.hid (Cells.new wc 3 #[.int .i64 a, .int .i64 b, .int .i64 c])
      have HFF := Lib.hid (HF.out.alloc (.cells #[.int .i64 a, .int .i64 b, .int .i64 c] 3))
      have HXX := Lib.hid (HX.out.alloc (.cells #[.int .i64 a, .int .i64 b, .int .i64 c] 3))
      have HBB := Lib.hid (HB.out.alloc HB.out.size (.cells #[.int .i64 a, .int .i64 b, .int .i64 c] 3))
      generalize wc.alloc (.cells #[.int .i64 a, .int .i64 b, .int .i64 c] 3) = w2 at *
      have x4 : w2.cell? ⟨w.heap.size, 4, none⟩ = some (.int .i64 n) := HXX.out.cell (j := 4) rfl
      have x5 : w2.cell? ⟨w.heap.size, 5, none⟩ = some (.int .u64 k) := HXX.out.cell (j := 5) rfl
      have f1 : w2.cell? ⟨b5, 1, none⟩ = some (.int .i64 (opRegs o)) := HFF.out.cell (j := 1) rfl
      have f2 : w2.cell? ⟨b5, 2, none⟩ = some (.bool (opN o)) := HFF.out.cell (j := 2) rfl
      have f3 : w2.cell? ⟨b5, 3, none⟩ = some (.bool (opK o)) := HFF.out.cell (j := 3) rfl
      have hs : ∀ i, i < 3 → w2.cell? ⟨wc.heap.size, i, none⟩ = some (.int .i64 (regV a b c i)) := by
        intro i hi
        match i, hi with
        | 0, _ => exact HS.out.cell (j := 0) rfl
        | 1, _ => exact HS.out.cell (j := 1) rfl
        | 2, _ => exact HS.out.cell (j := 2) rfl
      have HSS := Lib.hid hs
      clear x1 x2 x3 hs
      generalize wc.heap.size = bs at *
      go_loopw [29] (fun x wr => ∃ i : Nat, i ≤ 3 ∧ x = .int .i64 (i : Int) ∧ wr = w2 ∧ ∀ j : Nat, j < i → regBad (opRegs o) j (regV a b c j) = 0) (fun x _ => 3 - (intOf x).toNat)
      case atStart => exact ⟨0, by omega, rfl, rfl, fun j hj => by omega⟩
      case round =>
        obtain ⟨i, hi, rfl, rfl, hj⟩ := hrel
        have HJ := Lib.hid hj
        clear hj
        by_cases hlt3 : i < 3
        · have hsi := HSS.out i hlt3
          have i0 : (0 : Int) ≤ i := by omega
          have i1 : (i : Int) < 3 := by omega
          have HV : Hid (regV a b c i = regV a b c i) := Lib.hid rfl
          by_cases cA : opRegs o ≤ i ∧ regV a b c i ≠ 0
          · have e1 : regBad (opRegs o) i (regV a b c i) = 54 := if_pos cA
            have e0 := wrong_reg (n := n) (k := k) (many := many) h1 hlt3 HJ.out (by rw [e1]; decide)
            have HE0 := Lib.hid (e0.trans e1)
            have t1 : opRegs o ≤ (i : Int) := cA.1
            have t2 : (regV a b c i == 0) = false := by simpa using cA.2
            generalize regV a b c i = v at *
            generalize opRegs o = r at *
            clear e0 e1 HJ cA HV HSS
            go_wp2
            go_ret
            exact ⟨by first | (rw [HE0.out]; done) | (rw [HE0.out]; rfl), HBB.out⟩
          · by_cases cB : regV a b c i < 0 ∨ 8 ≤ regV a b c i
            · have e1 : regBad (opRegs o) i (regV a b c i) = 52 := by unfold regBad; rw [if_neg cA, if_pos cB]
              have e0 := wrong_reg (n := n) (k := k) (many := many) h1 hlt3 HJ.out (by rw [e1]; decide)
              have HE0 := Lib.hid (e0.trans e1)
              have t1 : ¬ opRegs o ≤ (i : Int) := fun e => cA ⟨e, by omega⟩
              generalize regV a b c i = v at *
              generalize opRegs o = r at *
              clear e0 e1 HJ cA HV HSS
              by_cases cC : v < 0
              · clear cB
                go_wp2
                go_ret
                exact ⟨by first | (rw [HE0.out]; done) | (rw [HE0.out]; rfl), HBB.out⟩
              · have cD : 8 ≤ v := by omega
                clear cB
                go_wp2
                go_ret
                exact ⟨by first | (rw [HE0.out]; done) | (rw [HE0.out]; rfl), HBB.out⟩
            · have e1 : regBad (opRegs o) i (regV a b c i) = 0 := by unfold regBad; rw [if_neg cA, if_neg cB]
              have HJ2 : Hid (∀ j : Nat, j < i + 1 → regBad (opRegs o) j (regV a b c j) = 0) := Lib.hid fun j hj => by
                rcases Nat.lt_or_ge j i with h | h
                · exact HJ.out j h
                · obtain rfl : j = i := by omega
                  exact e1
              have t3 : ¬ regV a b c i < 0 := by omega
              have t4 : ¬ 8 ≤ regV a b c i := by omega
              clear cB HV HSS HJ e1
              by_cases cE : opRegs o ≤ (i : Int)
              · have t2 : (regV a b c i == 0) = true := by
                  rw [beq_iff_eq]
                  exact Classical.byContradiction fun h => cA ⟨cE, h⟩
                clear cA
                go_wp2
                refine ⟨⟨i + 1, by omega, by go_num, by first | rfl | trivial, HJ2.out⟩, by simp [intOf]; omega⟩
              · clear cA
                go_wp2
                refine ⟨⟨i + 1, by omega, by go_num, by first | rfl | trivial, HJ2.out⟩, by simp [intOf]; omega⟩
        · have i1 : ¬ (i : Int) < 3 := by omega
          obtain rfl : i = 3 := by omega
          have e0 := wrong_tail (n := n) (k := k) (many := many) h1 HJ.out
          have HE := Lib.hid e0
          clear e0 HJ HSS
          by_cases c1 : opN o = false ∧ n ≠ 0
          · have e1 := HE.out.trans (if_pos c1)
            have HE0 := Lib.hid e1
            obtain ⟨u1, u2⟩ := c1
            have t1 : (n == 0) = false := by simpa using u2
            rw [u1] at f2
            clear e1 HE u1 u2
            go_wp2
            go_ret
            exact ⟨by first | (rw [HE0.out]; done) | (rw [HE0.out]; rfl), HBB.out⟩
          · have e1 := HE.out.trans (if_neg c1)
            have HE := Lib.hid e1
            clear e1
            have hN : (opN o = true) ∨ (opN o = false ∧ (n == 0) = true) := by
              cases hh : opN o
              · exact .inr ⟨rfl, by rw [beq_iff_eq]; exact Classical.byContradiction fun e => c1 ⟨hh, e⟩⟩
              · exact .inl rfl
            clear c1
            by_cases c2 : n < 0 ∨ (many : Int) < n
            · have e2 := HE.out.trans (if_pos c2)
              have HE0 := Lib.hid e2
              clear e2 HE
              rcases hN with hN | ⟨hN, t1⟩
              all_goals rw [hN] at f2
              all_goals clear hN
              all_goals by_cases c3 : n < 0
              all_goals first | (have c4 : (many : Int) < n := by omega) | skip
              all_goals clear c2
              all_goals go_wp2
              all_goals go_ret
              all_goals exact ⟨by first | (rw [HE0.out]; done) | (rw [HE0.out]; rfl), HBB.out⟩
            · have e2 := HE.out.trans (if_neg c2)
              have HE := Lib.hid e2
              have c3 : ¬ n < 0 := by omega
              have c4 : ¬ (many : Int) < n := by omega
              clear e2 c2
              have kc := fun w => kcan_any hk w
              by_cases c5 : opK o = false ∧ k ≠ 0
              · have e3 := HE.out.trans (if_pos (.inl c5))
                have HE0 := Lib.hid e3
                obtain ⟨u1, u2⟩ := c5
                have t5 : ((k : Int) == 0) = false := by rw [beq_eq_false_iff_ne]; omega
                have t7 : ((k : Int) != 0) = true := by simp [bne, t5]
                rw [u1] at f3
                clear e3 HE u1 u2
                rcases hN with hN | ⟨hN, t1⟩
                all_goals rw [hN] at f2
                all_goals clear hN
                all_goals go_wp2
                all_goals go_quiet (fail)
                all_goals go_wp2
                all_goals go_ret
                all_goals exact ⟨by first | (rw [HE0.out]; done) | (rw [HE0.out]; rfl), below_drewN HBB.out _⟩
              · have hK : (opK o = true) ∨ (opK o = false ∧ ((k : Int) == 0) = true) := by
                  cases hh : opK o
                  · exact .inr ⟨rfl, by rw [beq_iff_eq]; exact Classical.byContradiction fun e => c5 ⟨hh, by omega⟩⟩
                  · exact .inl rfl
                by_cases c6 : fcan k = k
                · have e3 := HE.out.trans (if_neg (fun h => h.elim (fun h => c5 h) (fun h => h c6)))
                  have HE0 := Lib.hid e3
                  have t6 : (((fcan k : Nat) : Int) == (k : Int)) = true := by rw [beq_iff_eq, c6]
                  have t8 : (((fcan k : Nat) : Int) != (k : Int)) = false := by simp [bne, t6]
                  generalize ((fcan k : Nat) : Int) = fk at *
                  clear e3 HE c5 c6
                  rcases hN with hN | ⟨hN, t1⟩ <;> rcases hK with hK | ⟨hK, t5⟩
                  all_goals first | (have t7 : ((k : Int) != 0) = false := by first | simp only [bne, t5, Bool.not_true] | fail) | skip
                  all_goals rw [hN] at f2
                  all_goals rw [hK] at f3
                  all_goals clear hN hK
                  all_goals go_wp2
                  all_goals go_quiet ((go_at_call 147; refine Calls.quiet_of_same (kc _)))
                  all_goals go_wp2
                  all_goals go_ret
                  all_goals exact ⟨by first | (rw [HE0.out]; done) | (rw [HE0.out]; rfl), below_drewN HBB.out _⟩
                · have e3 := HE.out.trans (if_pos (.inr c6))
                  have HE0 := Lib.hid e3
                  have t6 : (((fcan k : Nat) : Int) == (k : Int)) = false := by rw [beq_eq_false_iff_ne]; omega
                  have t8 : (((fcan k : Nat) : Int) != (k : Int)) = true := by simp [bne, t6]
                  generalize ((fcan k : Nat) : Int) = fk at *
                  clear e3 HE c5 c6
                  rcases hN with hN | ⟨hN, t1⟩ <;> rcases hK with hK | ⟨hK, t5⟩
                  all_goals first | (have t7 : ((k : Int) != 0) = false := by first | simp only [bne, t5, Bool.not_true] | fail) | skip
                  all_goals rw [hN] at f2
                  all_goals rw [hK] at f3
                  all_goals clear hN hK
                  all_goals go_wp2
                  all_goals go_quiet ((go_at_call 147; refine Calls.quiet_of_same (kc _)))
                  all_goals go_wp2
                  all_goals go_ret
                  all_goals exact ⟨by first | (rw [HE0.out]; done) | (rw [HE0.out]; rfl), below_drewN HBB.out _⟩
-- WRONG END
end Go.Proofs.YtdkencepmdfacaaGreatDoor
