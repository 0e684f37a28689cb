/- script.formOf (contract): the form of a kind. -/
import Derived.Laws.Rows
import Derived.Test.YtdkencepmdfacaaGreatDoorNumParse2
import Derived.Test.YtdkencepmdfacaaGreatDoorGr7
import Derived.Test.YtdkencepmdfacaaGreatDoorGr4
set_option maxRecDepth 100000
namespace Go.Proofs.YtdkencepmdfacaaGreatDoor
open Go.RowKit Ieee

/-- a kind's form as a value -/
def formV (kd : Int) : Value := .agg #[.string (strOf (if 1 ≤ kd ∧ kd ≤ 12 then stWord kd.toNat else [])), .bool (stA kd), .bool (stK kd), .bool (stX kd), .bool (stT kd)]
theorem ret_cell1 {P : Program} {fn : Func} {R : Ending → World → Prop} {a : Act} {w : World} {p : Tmp} {ty t : TypeId} {d : TypeDesc} (h : fn.results = #[.cell p ty]) {g : Nat} {cs : Array Value} {fr : Nat × Nat}
    (hp : a.tmps.getD p undef = .pointer (some ⟨g, 0, none⟩)) (hg : w.heap[g]? = some (.cells cs t fr)) (hu : P.underlying ty = some d) (hd : (match d with | .struct _ | .array _ _ => true | _ => false) = true) (hi : (P.info? ty).map (·.size) = some cs.size) (hdef : a.defers = [])
    (hR : R (.returned (.agg cs)) w) : bodyPost P fn R .ret a w :=
  bodyPost_ret (v := .agg cs) (results_cell_row h _ w g t cs fr d hp hg hu hd hi) hdef hR
theorem form_size : (Tryz.prog.info? 39).map (·.size) = some 5 := by kernel_rfl
theorem step_size : (Tryz.prog.info? 34).map (·.size) = some 5 := by kernel_rfl
theorem ret_form {fn : Func} {R : Ending → World → Prop} {a : Act} {w : World} (h : fn.results = #[.cell 2 39]) {g : Nat} {v0 v1 v2 v3 v4 : Value}
    (hp : a.tmps.getD 2 undef = .pointer (some ⟨g, 0, none⟩)) (hg : Cells w g 39 #[v0, v1, v2, v3, v4]) (hdef : a.defers = []) (hR : R (.returned (.agg #[v0, v1, v2, v3, v4])) w) : bodyPost Tryz.prog fn R .ret a w :=
  ret_cell1 h hp hg Tryz.underlying39 rfl form_size hdef hR
theorem ret_step {fn : Func} {R : Ending → World → Prop} {a : Act} {w : World} {p : Tmp} (h : fn.results = #[.cell p 34]) {g : Nat} {v0 v1 v2 v3 v4 : Value}
    (hp : a.tmps.getD p undef = .pointer (some ⟨g, 0, none⟩)) (hg : Cells w g 34 #[v0, v1, v2, v3, v4]) (hdef : a.defers = []) (hR : R (.returned (.agg #[v0, v1, v2, v3, v4])) w) : bodyPost Tryz.prog fn R .ret a w :=
  ret_cell1 h hp hg Tryz.underlying34 rfl step_size hdef hR
theorem set5_cells {w : World} {g : Nat} {t : TypeId} {a b c d e a' b' c' d' e' : Value} (h : Cells w g t #[a', b', c', d', e']) :
    Cells (((((w.setCell ⟨g, 0, none⟩ a).setCell ⟨g, 1, none⟩ b).setCell ⟨g, 2, none⟩ c).setCell ⟨g, 3, none⟩ d).setCell ⟨g, 4, none⟩ e) g t #[a, b, c, d, e] := ((((h.set 0 a).set 1 b).set 2 c).set 3 d).set 4 e
theorem set5_below {w0 w : World} {k g : Nat} {a b c d e : Value} (h : Below k w0 w) (hg : k ≤ g) :
    Below k w0 (((((w.setCell ⟨g, 0, none⟩ a).setCell ⟨g, 1, none⟩ b).setCell ⟨g, 2, none⟩ c).setCell ⟨g, 3, none⟩ d).setCell ⟨g, 4, none⟩ e) := ((((h.setCell hg a).setCell hg b).setCell hg c).setCell hg d).setCell hg e
def kindsA : Array Value := #[.string { data := #[] }, .string { data := #[] }, .string { data := #[116, 105, 99, 107] }, .string { data := #[115, 116, 101, 112] }, .string { data := #[100, 101, 108, 105, 118, 101, 114] }, .string { data := #[100, 114, 111, 112] }, .string { data := #[100, 117, 112] }, .string { data := #[] }, .string { data := #[99, 114, 97, 115, 104] }, .string { data := #[115, 116, 97, 114, 116] }, .string { data := #[99, 117, 116] }, .string { data := #[114, 111, 117, 110, 100] }, .string { data := #[115, 101, 116, 116, 108, 101] }]
theorem kinds_index (j : Nat) (hj : j < 13) (w : World) : (Instr.index 68 (.agg kindsA) (.int .i64 (j : Nat))).run Tryz.prog w = .ok (kindsA.getD j undef) w := by
  have hn : (0 : Int) ≤ (j : Int) ∧ (j : Int) < ((13 : Nat) : Int) := by omega
  rcases j with _ | _ | _ | _ | _ | _ | _ | _ | _ | _ | _ | _ | _ | j
  all_goals first | omega | (simp [Instr.index, run_underlying Tryz.underlying68, asIntOf, go_sem, kindsA])
/-- a block of five cells, whatever they hold -/
def Five (w : World) (g : Nat) (t : TypeId) : Prop := ∃ a b c d e, Cells w g t #[a, b, c, d, e]
theorem Five.set {w : World} {g : Nat} {t : TypeId} (h : Five w g t) (k : Nat) (v : Value) : Five (w.setCell ⟨g, k, none⟩ v) g t := by
  obtain ⟨a, b, c, d, e, h⟩ := h
  have hs := h.set k v
  rcases k with _ | _ | _ | _ | _ | k
  · exact ⟨_, _, _, _, _, hs⟩
  · exact ⟨_, _, _, _, _, hs⟩
  · exact ⟨_, _, _, _, _, hs⟩
  · exact ⟨_, _, _, _, _, hs⟩
  · exact ⟨_, _, _, _, _, hs⟩
  · rw [show (#[a, b, c, d, e] : Array Value).setIfInBounds (k + 5) v = #[a, b, c, d, e] from by simp] at hs
    exact ⟨_, _, _, _, _, hs⟩
theorem Five.five {w : World} {g : Nat} {t : TypeId} (h : Five w g t) (a b c d e : Value) : Cells (((((w.setCell ⟨g, 0, none⟩ a).setCell ⟨g, 1, none⟩ b).setCell ⟨g, 2, none⟩ c).setCell ⟨g, 3, none⟩ d).setCell ⟨g, 4, none⟩ e) g t #[a, b, c, d, e] := by
  obtain ⟨a', b', c', d', e', h⟩ := h
  exact set5_cells h

set_option maxHeartbeats 4000000 in
set_option maxRecDepth 100000 in
theorem formOf_any (kd : Int) (w : World) : Calls Tryz.prog 14 #[.int .i64 kd] w fun e w' => e = .returned (formV kd) ∧ Below w.heap.size w w' := by
  have HX := Lib.hid (Cells.new w 39 #[.string ⟨#[]⟩, .bool false, .bool false, .bool false, .bool false])
  have HB := Lib.hid ((Below.refl w.heap.size w).alloc (Nat.le_refl _) (.cells #[.string ⟨#[]⟩, .bool false, .bool false, .bool false, .bool false] 39))
  have c0 : (w.alloc (.cells #[.string ⟨#[]⟩, .bool false, .bool false, .bool false, .bool false] 39)).cell? ⟨w.heap.size, 0, none⟩ = some (.string ⟨#[]⟩) := HX.out.cell (j := 0) rfl
  have c1 : (w.alloc (.cells #[.string ⟨#[]⟩, .bool false, .bool false, .bool false, .bool false] 39)).cell? ⟨w.heap.size, 1, none⟩ = some (.bool false) := HX.out.cell (j := 1) rfl
  have c2 : (w.alloc (.cells #[.string ⟨#[]⟩, .bool false, .bool false, .bool false, .bool false] 39)).cell? ⟨w.heap.size, 2, none⟩ = some (.bool false) := HX.out.cell (j := 2) rfl
  have c3 : (w.alloc (.cells #[.string ⟨#[]⟩, .bool false, .bool false, .bool false, .bool false] 39)).cell? ⟨w.heap.size, 3, none⟩ = some (.bool false) := HX.out.cell (j := 3) rfl
  have c4 : (w.alloc (.cells #[.string ⟨#[]⟩, .bool false, .bool false, .bool false, .bool false] 39)).cell? ⟨w.heap.size, 4, none⟩ = some (.bool false) := HX.out.cell (j := 4) rfl
  have z0 := HX.out.fz 0
  have z1 := HX.out.fz 1
  have z2 := HX.out.fz 2
  have z3 := HX.out.fz 3
  have z4 := HX.out.fz 4
  have HF : Hid (Five (w.alloc (.cells #[.string ⟨#[]⟩, .bool false, .bool false, .bool false, .bool false] 39)) w.heap.size 39) := Lib.hid ⟨_, _, _, _, _, HX.out⟩
  clear HX
  by_cases hk : 1 ≤ kd ∧ kd ≤ 12
  · have hc : kd = 1 ∨ kd = 2 ∨ kd = 3 ∨ kd = 4 ∨ kd = 5 ∨ kd = 6 ∨ kd = 7 ∨ kd = 8 ∨ kd = 9 ∨ kd = 10 ∨ kd = 11 ∨ kd = 12 := by omega
    clear hk
    rcases hc with rfl | rfl | rfl | rfl | rfl | rfl | rfl | rfl | rfl | rfl | rfl | rfl
    · skip
      rw [show formV 1 = .agg #[.string { data := #[98, 121, 116, 101, 115] }, .bool false, .bool false, .bool false, .bool true] from by kernel_rfl]
      go_enter Tryz.func14, Tryz.ntmps14
      go_upto_region 1 with fail
      generalize w.alloc (.cells #[.string ⟨#[]⟩, .bool false, .bool false, .bool false, .bool false] 39) = w1 at *
      go_wp2
      generalize hW9 : World.setCell _ _ _ = W9
      have HC : Cells W9 w.heap.size 39 #[.string { data := #[98, 121, 116, 101, 115] }, .bool false, .bool false, .bool false, .bool true] := by
        rw [← hW9]
        exact Five.five HF.out _ _ _ _ _
      have HBW : Below w.heap.size w W9 := by
        rw [← hW9]
        exact (Below.setCell (Below.setCell (Below.setCell (Below.setCell (Below.setCell HB.out (Nat.le_refl _) _) (Nat.le_refl _) _) (Nat.le_refl _) _) (Nat.le_refl _) _) (Nat.le_refl _) _)
      exact ret_form rfl rfl HC rfl ⟨rfl, HBW⟩
    · have xk : ∀ W, (Instr.index 68 (.agg #[.string { data := #[] }, .string { data := #[] }, .string { data := #[116, 105, 99, 107] }, .string { data := #[115, 116, 101, 112] }, .string { data := #[100, 101, 108, 105, 118, 101, 114] }, .string { data := #[100, 114, 111, 112] }, .string { data := #[100, 117, 112] }, .string { data := #[] }, .string { data := #[99, 114, 97, 115, 104] }, .string { data := #[115, 116, 97, 114, 116] }, .string { data := #[99, 117, 116] }, .string { data := #[114, 111, 117, 110, 100] }, .string { data := #[115, 101, 116, 116, 108, 101] }]) (.int .i64 2)).run Tryz.prog W = .ok (.string { data := #[116, 105, 99, 107] }) W := fun W => kinds_index 2 (by decide) W
      rw [show formV 2 = .agg #[.string { data := #[116, 105, 99, 107] }, .bool true, .bool false, .bool false, .bool false] from by kernel_rfl]
      go_enter Tryz.func14, Tryz.ntmps14
      go_upto_region 1 with fail
      generalize w.alloc (.cells #[.string ⟨#[]⟩, .bool false, .bool false, .bool false, .bool false] 39) = w1 at *
      go_wp2
      generalize hW9 : World.setCell _ _ _ = W9
      have HC : Cells W9 w.heap.size 39 #[.string { data := #[116, 105, 99, 107] }, .bool true, .bool false, .bool false, .bool false] := by
        rw [← hW9]
        exact Five.five (Five.set (Five.set HF.out _ _) _ _) _ _ _ _ _
      have HBW : Below w.heap.size w W9 := by
        rw [← hW9]
        exact (Below.setCell (Below.setCell (Below.setCell (Below.setCell (Below.setCell (Below.setCell (Below.setCell HB.out (Nat.le_refl _) _) (Nat.le_refl _) _) (Nat.le_refl _) _) (Nat.le_refl _) _) (Nat.le_refl _) _) (Nat.le_refl _) _) (Nat.le_refl _) _)
      exact ret_form rfl rfl HC rfl ⟨rfl, HBW⟩
    · have xk : ∀ W, (Instr.index 68 (.agg #[.string { data := #[] }, .string { data := #[] }, .string { data := #[116, 105, 99, 107] }, .string { data := #[115, 116, 101, 112] }, .string { data := #[100, 101, 108, 105, 118, 101, 114] }, .string { data := #[100, 114, 111, 112] }, .string { data := #[100, 117, 112] }, .string { data := #[] }, .string { data := #[99, 114, 97, 115, 104] }, .string { data := #[115, 116, 97, 114, 116] }, .string { data := #[99, 117, 116] }, .string { data := #[114, 111, 117, 110, 100] }, .string { data := #[115, 101, 116, 116, 108, 101] }]) (.int .i64 3)).run Tryz.prog W = .ok (.string { data := #[115, 116, 101, 112] }) W := fun W => kinds_index 3 (by decide) W
      rw [show formV 3 = .agg #[.string { data := #[115, 116, 101, 112] }, .bool true, .bool false, .bool false, .bool false] from by kernel_rfl]
      go_enter Tryz.func14, Tryz.ntmps14
      go_upto_region 1 with fail
      generalize w.alloc (.cells #[.string ⟨#[]⟩, .bool false, .bool false, .bool false, .bool false] 39) = w1 at *
      go_wp2
      generalize hW9 : World.setCell _ _ _ = W9
      have HC : Cells W9 w.heap.size 39 #[.string { data := #[115, 116, 101, 112] }, .bool true, .bool false, .bool false, .bool false] := by
        rw [← hW9]
        exact Five.five (Five.set (Five.set HF.out _ _) _ _) _ _ _ _ _
      have HBW : Below w.heap.size w W9 := by
        rw [← hW9]
        exact (Below.setCell (Below.setCell (Below.setCell (Below.setCell (Below.setCell (Below.setCell (Below.setCell HB.out (Nat.le_refl _) _) (Nat.le_refl _) _) (Nat.le_refl _) _) (Nat.le_refl _) _) (Nat.le_refl _) _) (Nat.le_refl _) _) (Nat.le_refl _) _)
      exact ret_form rfl rfl HC rfl ⟨rfl, HBW⟩
    · have xk : ∀ W, (Instr.index 68 (.agg #[.string { data := #[] }, .string { data := #[] }, .string { data := #[116, 105, 99, 107] }, .string { data := #[115, 116, 101, 112] }, .string { data := #[100, 101, 108, 105, 118, 101, 114] }, .string { data := #[100, 114, 111, 112] }, .string { data := #[100, 117, 112] }, .string { data := #[] }, .string { data := #[99, 114, 97, 115, 104] }, .string { data := #[115, 116, 97, 114, 116] }, .string { data := #[99, 117, 116] }, .string { data := #[114, 111, 117, 110, 100] }, .string { data := #[115, 101, 116, 116, 108, 101] }]) (.int .i64 4)).run Tryz.prog W = .ok (.string { data := #[100, 101, 108, 105, 118, 101, 114] }) W := fun W => kinds_index 4 (by decide) W
      rw [show formV 4 = .agg #[.string { data := #[100, 101, 108, 105, 118, 101, 114] }, .bool false, .bool true, .bool false, .bool false] from by kernel_rfl]
      go_enter Tryz.func14, Tryz.ntmps14
      go_upto_region 1 with fail
      generalize w.alloc (.cells #[.string ⟨#[]⟩, .bool false, .bool false, .bool false, .bool false] 39) = w1 at *
      go_wp2
      generalize hW9 : World.setCell _ _ _ = W9
      have HC : Cells W9 w.heap.size 39 #[.string { data := #[100, 101, 108, 105, 118, 101, 114] }, .bool false, .bool true, .bool false, .bool false] := by
        rw [← hW9]
        exact Five.five (Five.set (Five.set HF.out _ _) _ _) _ _ _ _ _
      have HBW : Below w.heap.size w W9 := by
        rw [← hW9]
        exact (Below.setCell (Below.setCell (Below.setCell (Below.setCell (Below.setCell (Below.setCell (Below.setCell HB.out (Nat.le_refl _) _) (Nat.le_refl _) _) (Nat.le_refl _) _) (Nat.le_refl _) _) (Nat.le_refl _) _) (Nat.le_refl _) _) (Nat.le_refl _) _)
      exact ret_form rfl rfl HC rfl ⟨rfl, HBW⟩
    · have xk : ∀ W, (Instr.index 68 (.agg #[.string { data := #[] }, .string { data := #[] }, .string { data := #[116, 105, 99, 107] }, .string { data := #[115, 116, 101, 112] }, .string { data := #[100, 101, 108, 105, 118, 101, 114] }, .string { data := #[100, 114, 111, 112] }, .string { data := #[100, 117, 112] }, .string { data := #[] }, .string { data := #[99, 114, 97, 115, 104] }, .string { data := #[115, 116, 97, 114, 116] }, .string { data := #[99, 117, 116] }, .string { data := #[114, 111, 117, 110, 100] }, .string { data := #[115, 101, 116, 116, 108, 101] }]) (.int .i64 5)).run Tryz.prog W = .ok (.string { data := #[100, 114, 111, 112] }) W := fun W => kinds_index 5 (by decide) W
      rw [show formV 5 = .agg #[.string { data := #[100, 114, 111, 112] }, .bool false, .bool true, .bool false, .bool false] from by kernel_rfl]
      go_enter Tryz.func14, Tryz.ntmps14
      go_upto_region 1 with fail
      generalize w.alloc (.cells #[.string ⟨#[]⟩, .bool false, .bool false, .bool false, .bool false] 39) = w1 at *
      go_wp2
      generalize hW9 : World.setCell _ _ _ = W9
      have HC : Cells W9 w.heap.size 39 #[.string { data := #[100, 114, 111, 112] }, .bool false, .bool true, .bool false, .bool false] := by
        rw [← hW9]
        exact Five.five (Five.set (Five.set HF.out _ _) _ _) _ _ _ _ _
      have HBW : Below w.heap.size w W9 := by
        rw [← hW9]
        exact (Below.setCell (Below.setCell (Below.setCell (Below.setCell (Below.setCell (Below.setCell (Below.setCell HB.out (Nat.le_refl _) _) (Nat.le_refl _) _) (Nat.le_refl _) _) (Nat.le_refl _) _) (Nat.le_refl _) _) (Nat.le_refl _) _) (Nat.le_refl _) _)
      exact ret_form rfl rfl HC rfl ⟨rfl, HBW⟩
    · have xk : ∀ W, (Instr.index 68 (.agg #[.string { data := #[] }, .string { data := #[] }, .string { data := #[116, 105, 99, 107] }, .string { data := #[115, 116, 101, 112] }, .string { data := #[100, 101, 108, 105, 118, 101, 114] }, .string { data := #[100, 114, 111, 112] }, .string { data := #[100, 117, 112] }, .string { data := #[] }, .string { data := #[99, 114, 97, 115, 104] }, .string { data := #[115, 116, 97, 114, 116] }, .string { data := #[99, 117, 116] }, .string { data := #[114, 111, 117, 110, 100] }, .string { data := #[115, 101, 116, 116, 108, 101] }]) (.int .i64 6)).run Tryz.prog W = .ok (.string { data := #[100, 117, 112] }) W := fun W => kinds_index 6 (by decide) W
      rw [show formV 6 = .agg #[.string { data := #[100, 117, 112] }, .bool false, .bool true, .bool false, .bool false] from by kernel_rfl]
      go_enter Tryz.func14, Tryz.ntmps14
      go_upto_region 1 with fail
      generalize w.alloc (.cells #[.string ⟨#[]⟩, .bool false, .bool false, .bool false, .bool false] 39) = w1 at *
      go_wp2
      generalize hW9 : World.setCell _ _ _ = W9
      have HC : Cells W9 w.heap.size 39 #[.string { data := #[100, 117, 112] }, .bool false, .bool true, .bool false, .bool false] := by
        rw [← hW9]
        exact Five.five (Five.set (Five.set HF.out _ _) _ _) _ _ _ _ _
      have HBW : Below w.heap.size w W9 := by
        rw [← hW9]
        exact (Below.setCell (Below.setCell (Below.setCell (Below.setCell (Below.setCell (Below.setCell (Below.setCell HB.out (Nat.le_refl _) _) (Nat.le_refl _) _) (Nat.le_refl _) _) (Nat.le_refl _) _) (Nat.le_refl _) _) (Nat.le_refl _) _) (Nat.le_refl _) _)
      exact ret_form rfl rfl HC rfl ⟨rfl, HBW⟩
    · skip
      rw [show formV 7 = .agg #[.string { data := #[105, 110, 106, 101, 99, 116] }, .bool true, .bool false, .bool false, .bool true] from by kernel_rfl]
      go_enter Tryz.func14, Tryz.ntmps14
      go_upto_region 1 with fail
      generalize w.alloc (.cells #[.string ⟨#[]⟩, .bool false, .bool false, .bool false, .bool false] 39) = w1 at *
      go_wp2
      generalize hW9 : World.setCell _ _ _ = W9
      have HC : Cells W9 w.heap.size 39 #[.string { data := #[105, 110, 106, 101, 99, 116] }, .bool true, .bool false, .bool false, .bool true] := by
        rw [← hW9]
        exact Five.five HF.out _ _ _ _ _
      have HBW : Below w.heap.size w W9 := by
        rw [← hW9]
        exact (Below.setCell (Below.setCell (Below.setCell (Below.setCell (Below.setCell HB.out (Nat.le_refl _) _) (Nat.le_refl _) _) (Nat.le_refl _) _) (Nat.le_refl _) _) (Nat.le_refl _) _)
      exact ret_form rfl rfl HC rfl ⟨rfl, HBW⟩
    · have xk : ∀ W, (Instr.index 68 (.agg #[.string { data := #[] }, .string { data := #[] }, .string { data := #[116, 105, 99, 107] }, .string { data := #[115, 116, 101, 112] }, .string { data := #[100, 101, 108, 105, 118, 101, 114] }, .string { data := #[100, 114, 111, 112] }, .string { data := #[100, 117, 112] }, .string { data := #[] }, .string { data := #[99, 114, 97, 115, 104] }, .string { data := #[115, 116, 97, 114, 116] }, .string { data := #[99, 117, 116] }, .string { data := #[114, 111, 117, 110, 100] }, .string { data := #[115, 101, 116, 116, 108, 101] }]) (.int .i64 8)).run Tryz.prog W = .ok (.string { data := #[99, 114, 97, 115, 104] }) W := fun W => kinds_index 8 (by decide) W
      rw [show formV 8 = .agg #[.string { data := #[99, 114, 97, 115, 104] }, .bool true, .bool false, .bool false, .bool false] from by kernel_rfl]
      go_enter Tryz.func14, Tryz.ntmps14
      go_upto_region 1 with fail
      generalize w.alloc (.cells #[.string ⟨#[]⟩, .bool false, .bool false, .bool false, .bool false] 39) = w1 at *
      go_wp2
      generalize hW9 : World.setCell _ _ _ = W9
      have HC : Cells W9 w.heap.size 39 #[.string { data := #[99, 114, 97, 115, 104] }, .bool true, .bool false, .bool false, .bool false] := by
        rw [← hW9]
        exact Five.five (Five.set (Five.set HF.out _ _) _ _) _ _ _ _ _
      have HBW : Below w.heap.size w W9 := by
        rw [← hW9]
        exact (Below.setCell (Below.setCell (Below.setCell (Below.setCell (Below.setCell (Below.setCell (Below.setCell HB.out (Nat.le_refl _) _) (Nat.le_refl _) _) (Nat.le_refl _) _) (Nat.le_refl _) _) (Nat.le_refl _) _) (Nat.le_refl _) _) (Nat.le_refl _) _)
      exact ret_form rfl rfl HC rfl ⟨rfl, HBW⟩
    · have xk : ∀ W, (Instr.index 68 (.agg #[.string { data := #[] }, .string { data := #[] }, .string { data := #[116, 105, 99, 107] }, .string { data := #[115, 116, 101, 112] }, .string { data := #[100, 101, 108, 105, 118, 101, 114] }, .string { data := #[100, 114, 111, 112] }, .string { data := #[100, 117, 112] }, .string { data := #[] }, .string { data := #[99, 114, 97, 115, 104] }, .string { data := #[115, 116, 97, 114, 116] }, .string { data := #[99, 117, 116] }, .string { data := #[114, 111, 117, 110, 100] }, .string { data := #[115, 101, 116, 116, 108, 101] }]) (.int .i64 9)).run Tryz.prog W = .ok (.string { data := #[115, 116, 97, 114, 116] }) W := fun W => kinds_index 9 (by decide) W
      rw [show formV 9 = .agg #[.string { data := #[115, 116, 97, 114, 116] }, .bool true, .bool true, .bool true, .bool false] from by kernel_rfl]
      go_enter Tryz.func14, Tryz.ntmps14
      go_upto_region 1 with fail
      generalize w.alloc (.cells #[.string ⟨#[]⟩, .bool false, .bool false, .bool false, .bool false] 39) = w1 at *
      go_wp2
      generalize hW9 : World.setCell _ _ _ = W9
      have HC : Cells W9 w.heap.size 39 #[.string { data := #[115, 116, 97, 114, 116] }, .bool true, .bool true, .bool true, .bool false] := by
        rw [← hW9]
        exact Five.five (Five.set (Five.set (Five.set (Five.set HF.out _ _) _ _) _ _) _ _) _ _ _ _ _
      have HBW : Below w.heap.size w W9 := by
        rw [← hW9]
        exact (Below.setCell (Below.setCell (Below.setCell (Below.setCell (Below.setCell (Below.setCell (Below.setCell (Below.setCell (Below.setCell HB.out (Nat.le_refl _) _) (Nat.le_refl _) _) (Nat.le_refl _) _) (Nat.le_refl _) _) (Nat.le_refl _) _) (Nat.le_refl _) _) (Nat.le_refl _) _) (Nat.le_refl _) _) (Nat.le_refl _) _)
      exact ret_form rfl rfl HC rfl ⟨rfl, HBW⟩
    · have xk : ∀ W, (Instr.index 68 (.agg #[.string { data := #[] }, .string { data := #[] }, .string { data := #[116, 105, 99, 107] }, .string { data := #[115, 116, 101, 112] }, .string { data := #[100, 101, 108, 105, 118, 101, 114] }, .string { data := #[100, 114, 111, 112] }, .string { data := #[100, 117, 112] }, .string { data := #[] }, .string { data := #[99, 114, 97, 115, 104] }, .string { data := #[115, 116, 97, 114, 116] }, .string { data := #[99, 117, 116] }, .string { data := #[114, 111, 117, 110, 100] }, .string { data := #[115, 101, 116, 116, 108, 101] }]) (.int .i64 10)).run Tryz.prog W = .ok (.string { data := #[99, 117, 116] }) W := fun W => kinds_index 10 (by decide) W
      rw [show formV 10 = .agg #[.string { data := #[99, 117, 116] }, .bool false, .bool true, .bool true, .bool false] from by kernel_rfl]
      go_enter Tryz.func14, Tryz.ntmps14
      go_upto_region 1 with fail
      generalize w.alloc (.cells #[.string ⟨#[]⟩, .bool false, .bool false, .bool false, .bool false] 39) = w1 at *
      go_wp2
      generalize hW9 : World.setCell _ _ _ = W9
      have HC : Cells W9 w.heap.size 39 #[.string { data := #[99, 117, 116] }, .bool false, .bool true, .bool true, .bool false] := by
        rw [← hW9]
        exact Five.five (Five.set (Five.set (Five.set HF.out _ _) _ _) _ _) _ _ _ _ _
      have HBW : Below w.heap.size w W9 := by
        rw [← hW9]
        exact (Below.setCell (Below.setCell (Below.setCell (Below.setCell (Below.setCell (Below.setCell (Below.setCell (Below.setCell HB.out (Nat.le_refl _) _) (Nat.le_refl _) _) (Nat.le_refl _) _) (Nat.le_refl _) _) (Nat.le_refl _) _) (Nat.le_refl _) _) (Nat.le_refl _) _) (Nat.le_refl _) _)
      exact ret_form rfl rfl HC rfl ⟨rfl, HBW⟩
    · have xk : ∀ W, (Instr.index 68 (.agg #[.string { data := #[] }, .string { data := #[] }, .string { data := #[116, 105, 99, 107] }, .string { data := #[115, 116, 101, 112] }, .string { data := #[100, 101, 108, 105, 118, 101, 114] }, .string { data := #[100, 114, 111, 112] }, .string { data := #[100, 117, 112] }, .string { data := #[] }, .string { data := #[99, 114, 97, 115, 104] }, .string { data := #[115, 116, 97, 114, 116] }, .string { data := #[99, 117, 116] }, .string { data := #[114, 111, 117, 110, 100] }, .string { data := #[115, 101, 116, 116, 108, 101] }]) (.int .i64 11)).run Tryz.prog W = .ok (.string { data := #[114, 111, 117, 110, 100] }) W := fun W => kinds_index 11 (by decide) W
      rw [show formV 11 = .agg #[.string { data := #[114, 111, 117, 110, 100] }, .bool false, .bool false, .bool false, .bool false] from by kernel_rfl]
      go_enter Tryz.func14, Tryz.ntmps14
      go_upto_region 1 with fail
      generalize w.alloc (.cells #[.string ⟨#[]⟩, .bool false, .bool false, .bool false, .bool false] 39) = w1 at *
      go_wp2
      generalize hW9 : World.setCell _ _ _ = W9
      have HC : Cells W9 w.heap.size 39 #[.string { data := #[114, 111, 117, 110, 100] }, .bool false, .bool false, .bool false, .bool false] := by
        rw [← hW9]
        exact Five.five (Five.set HF.out _ _) _ _ _ _ _
      have HBW : Below w.heap.size w W9 := by
        rw [← hW9]
        exact (Below.setCell (Below.setCell (Below.setCell (Below.setCell (Below.setCell (Below.setCell HB.out (Nat.le_refl _) _) (Nat.le_refl _) _) (Nat.le_refl _) _) (Nat.le_refl _) _) (Nat.le_refl _) _) (Nat.le_refl _) _)
      exact ret_form rfl rfl HC rfl ⟨rfl, HBW⟩
    · have xk : ∀ W, (Instr.index 68 (.agg #[.string { data := #[] }, .string { data := #[] }, .string { data := #[116, 105, 99, 107] }, .string { data := #[115, 116, 101, 112] }, .string { data := #[100, 101, 108, 105, 118, 101, 114] }, .string { data := #[100, 114, 111, 112] }, .string { data := #[100, 117, 112] }, .string { data := #[] }, .string { data := #[99, 114, 97, 115, 104] }, .string { data := #[115, 116, 97, 114, 116] }, .string { data := #[99, 117, 116] }, .string { data := #[114, 111, 117, 110, 100] }, .string { data := #[115, 101, 116, 116, 108, 101] }]) (.int .i64 12)).run Tryz.prog W = .ok (.string { data := #[115, 101, 116, 116, 108, 101] }) W := fun W => kinds_index 12 (by decide) W
      rw [show formV 12 = .agg #[.string { data := #[115, 101, 116, 116, 108, 101] }, .bool false, .bool true, .bool false, .bool false] from by kernel_rfl]
      go_enter Tryz.func14, Tryz.ntmps14
      go_upto_region 1 with fail
      generalize w.alloc (.cells #[.string ⟨#[]⟩, .bool false, .bool false, .bool false, .bool false] 39) = w1 at *
      go_wp2
      generalize hW9 : World.setCell _ _ _ = W9
      have HC : Cells W9 w.heap.size 39 #[.string { data := #[115, 101, 116, 116, 108, 101] }, .bool false, .bool true, .bool false, .bool false] := by
        rw [← hW9]
        exact Five.five (Five.set (Five.set HF.out _ _) _ _) _ _ _ _ _
      have HBW : Below w.heap.size w W9 := by
        rw [← hW9]
        exact (Below.setCell (Below.setCell (Below.setCell (Below.setCell (Below.setCell (Below.setCell (Below.setCell HB.out (Nat.le_refl _) _) (Nat.le_refl _) _) (Nat.le_refl _) _) (Nat.le_refl _) _) (Nat.le_refl _) _) (Nat.le_refl _) _) (Nat.le_refl _) _)
      exact ret_form rfl rfl HC rfl ⟨rfl, HBW⟩
  · have e : formV kd = .agg #[.string ⟨#[]⟩, .bool false, .bool false, .bool false, .bool false] := by
      unfold formV stA stK stX stT
      rw [if_neg hk]
      have n : ∀ j : Int, 1 ≤ j → j ≤ 12 → (kd == j) = false := fun j h1 h2 => by rw [beq_eq_false_iff_ne]; omega
      rw [n 1 (by omega) (by omega), n 2 (by omega) (by omega), n 3 (by omega) (by omega), n 4 (by omega) (by omega), n 5 (by omega) (by omega), n 6 (by omega) (by omega), n 7 (by omega) (by omega), n 8 (by omega) (by omega), n 9 (by omega) (by omega), n 10 (by omega) (by omega), n 12 (by omega) (by omega)]
      rfl
    rw [e]
    have hway : ¬ (1 : Int) ≤ kd ∨ ((1 : Int) ≤ kd ∧ ¬ kd ≤ 12) := by omega
    have n1 : (kd == 1) = false := by rw [beq_eq_false_iff_ne]; omega
    have n2 : (kd == 2) = false := by rw [beq_eq_false_iff_ne]; omega
    have n3 : (kd == 3) = false := by rw [beq_eq_false_iff_ne]; omega
    have n4 : (kd == 4) = false := by rw [beq_eq_false_iff_ne]; omega
    have n5 : (kd == 5) = false := by rw [beq_eq_false_iff_ne]; omega
    have n6 : (kd == 6) = false := by rw [beq_eq_false_iff_ne]; omega
    have n7 : (kd == 7) = false := by rw [beq_eq_false_iff_ne]; omega
    have n8 : (kd == 8) = false := by rw [beq_eq_false_iff_ne]; omega
    have n9 : (kd == 9) = false := by rw [beq_eq_false_iff_ne]; omega
    have n10 : (kd == 10) = false := by rw [beq_eq_false_iff_ne]; omega
    have n12 : (kd == 12) = false := by rw [beq_eq_false_iff_ne]; omega
    clear hk e
    go_enter Tryz.func14, Tryz.ntmps14
    go_upto_region 1 with fail
    generalize w.alloc (.cells #[.string ⟨#[]⟩, .bool false, .bool false, .bool false, .bool false] 39) = w1 at *
    rcases hway with t1 | ⟨t1, t2⟩
    · go_wp2
      generalize hW9 : World.setCell _ _ _ = W9
      have HC : Cells W9 w.heap.size 39 #[.string ⟨#[]⟩, .bool false, .bool false, .bool false, .bool false] := by
        rw [← hW9]
        exact Five.five HF.out _ _ _ _ _
      have HBW : Below w.heap.size w W9 := by
        rw [← hW9]
        exact (Below.setCell (Below.setCell (Below.setCell (Below.setCell (Below.setCell HB.out (Nat.le_refl _) _) (Nat.le_refl _) _) (Nat.le_refl _) _) (Nat.le_refl _) _) (Nat.le_refl _) _)
      exact ret_form rfl rfl HC rfl ⟨rfl, HBW⟩
    · go_wp2
      generalize hW9 : World.setCell _ _ _ = W9
      have HC : Cells W9 w.heap.size 39 #[.string ⟨#[]⟩, .bool false, .bool false, .bool false, .bool false] := by
        rw [← hW9]
        exact Five.five HF.out _ _ _ _ _
      have HBW : Below w.heap.size w W9 := by
        rw [← hW9]
        exact (Below.setCell (Below.setCell (Below.setCell (Below.setCell (Below.setCell HB.out (Nat.le_refl _) _) (Nat.le_refl _) _) (Nat.le_refl _) _) (Nat.le_refl _) _) (Nat.le_refl _) _)
      exact ret_form rfl rfl HC rfl ⟨rfl, HBW⟩
end Go.Proofs.YtdkencepmdfacaaGreatDoor
