/- form.named (contract): a step with the fields of its kind alone. -/
import Derived.Test.YtdkencepmdfacaaGreatDoorTf
set_option maxRecDepth 100000
namespace Go.Proofs.YtdkencepmdfacaaGreatDoor
open Go.RowKit Ieee

set_option maxHeartbeats 8000000 in
set_option maxRecDepth 100000 in
theorem named_any (W : ByteArray) (fa fk fx ft : Bool) (kd a k x : Int) (T : ByteArray) (w : World) : Calls Tryz.prog 15 #[.agg #[.string W, .bool fa, .bool fk, .bool fx, .bool ft], .agg #[.int .i64 kd, .int .i64 a, .int .i64 k, .int .i64 x, .string T]] w fun e w' => e = .returned (.agg #[.int .i64 kd, .int .i64 (if fa = true then a else 0), .int .i64 (if fk = true then k else 0), .int .i64 (if fx = true then x else 0), .string (if ft = true then T else ⟨#[]⟩)]) ∧ Below w.heap.size w w' := by
  have HF := Lib.hid (((Cells.new w 39 #[.string W, .bool fa, .bool fk, .bool fx, .bool ft]).alloc (.cells #[.int .i64 kd, .int .i64 a, .int .i64 k, .int .i64 x, .string T] 34)).alloc (.cells #[.int .i64 0, .int .i64 0, .int .i64 0, .int .i64 0, .string ⟨#[]⟩] 34))
  have HS := Lib.hid ((Cells.newAt (w.alloc (.cells #[.string W, .bool fa, .bool fk, .bool fx, .bool ft] 39)) 34 #[.int .i64 kd, .int .i64 a, .int .i64 k, .int .i64 x, .string T] (w.heap.size + 1) (by simp)).alloc (.cells #[.int .i64 0, .int .i64 0, .int .i64 0, .int .i64 0, .string ⟨#[]⟩] 34))
  have HR := Lib.hid (Cells.newAt ((w.alloc (.cells #[.string W, .bool fa, .bool fk, .bool fx, .bool ft] 39)).alloc (.cells #[.int .i64 kd, .int .i64 a, .int .i64 k, .int .i64 x, .string T] 34)) 34 #[.int .i64 0, .int .i64 0, .int .i64 0, .int .i64 0, .string ⟨#[]⟩] (w.heap.size + 1 + 1) (by simp))
  have HB := Lib.hid ((((Below.refl w.heap.size w).alloc (Nat.le_refl _) (.cells #[.string W, .bool fa, .bool fk, .bool fx, .bool ft] 39)).alloc (by simp) (.cells #[.int .i64 kd, .int .i64 a, .int .i64 k, .int .i64 x, .string T] 34)).alloc (by simp; omega) (.cells #[.int .i64 0, .int .i64 0, .int .i64 0, .int .i64 0, .string ⟨#[]⟩] 34))
  go_enter Tryz.func15, Tryz.ntmps15
  go_upto_region 1 with fail
  generalize ((w.alloc (.cells #[.string W, .bool fa, .bool fk, .bool fx, .bool ft] 39)).alloc (.cells #[.int .i64 kd, .int .i64 a, .int .i64 k, .int .i64 x, .string T] 34)).alloc (.cells #[.int .i64 0, .int .i64 0, .int .i64 0, .int .i64 0, .string ⟨#[]⟩] 34) = w3 at *
  have s0 : w3.cell? ⟨w.heap.size + 1, 0, none⟩ = some (.int .i64 kd) := HS.out.cell (j := 0) rfl
  go_upto_region 2 with fail
  have HO4 := Lib.hid (Cells.new w3 34 #[.int .i64 kd, .int .i64 0, .int .i64 0, .int .i64 0, .string ⟨#[]⟩])
  have HF4 := Lib.hid (HF.out.alloc (.cells #[.int .i64 kd, .int .i64 0, .int .i64 0, .int .i64 0, .string ⟨#[]⟩] 34))
  have HS4 := Lib.hid (HS.out.alloc (.cells #[.int .i64 kd, .int .i64 0, .int .i64 0, .int .i64 0, .string ⟨#[]⟩] 34))
  have HR4 := Lib.hid (HR.out.alloc (.cells #[.int .i64 kd, .int .i64 0, .int .i64 0, .int .i64 0, .string ⟨#[]⟩] 34))
  have HB4 := Lib.hid (HB.out.alloc HB.out.size (.cells #[.int .i64 kd, .int .i64 0, .int .i64 0, .int .i64 0, .string ⟨#[]⟩] 34))
  have HNE := Lib.hid (show w.heap.size ≠ w3.heap.size ∧ w.heap.size + 1 ≠ w3.heap.size ∧ w.heap.size + 1 + 1 ≠ w3.heap.size ∧ w.heap.size ≤ w3.heap.size from ⟨Nat.ne_of_lt HF.out.lt, Nat.ne_of_lt HS.out.lt, Nat.ne_of_lt HR.out.lt, Nat.le_of_lt HF.out.lt⟩)
  clear HF HS HR HB s0
  generalize w3.alloc (.cells #[.int .i64 kd, .int .i64 0, .int .i64 0, .int .i64 0, .string ⟨#[]⟩] 34) = w4 at *
  generalize w3.heap.size = OB at *
  clear w3
  cases fa
  · skip
    have f0 : w4.cell? ⟨w.heap.size, 1, none⟩ = some (.bool false) := HF4.out.cell (j := 1) rfl
    go_upto_region 4 with fail
    clear f0
    cases fk
    · skip
      have f1 : w4.cell? ⟨w.heap.size, 2, none⟩ = some (.bool false) := HF4.out.cell (j := 2) rfl
      go_upto_region 6 with fail
      clear f1
      cases fx
      · skip
        have f2 : w4.cell? ⟨w.heap.size, 3, none⟩ = some (.bool false) := HF4.out.cell (j := 3) rfl
        go_upto_region 8 with fail
        clear f2
        cases ft
        · skip
          have f3 : w4.cell? ⟨w.heap.size, 4, none⟩ = some (.bool false) := HF4.out.cell (j := 4) rfl
          go_upto_region 10 with fail
          clear f3
          have o0 : w4.cell? ⟨OB, 0, none⟩ = some (.int .i64 kd) := HO4.out.cell (j := 0) rfl
          have o1 : w4.cell? ⟨OB, 1, none⟩ = some (.int .i64 0) := HO4.out.cell (j := 1) rfl
          have o2 : w4.cell? ⟨OB, 2, none⟩ = some (.int .i64 0) := HO4.out.cell (j := 2) rfl
          have o3 : w4.cell? ⟨OB, 3, none⟩ = some (.int .i64 0) := HO4.out.cell (j := 3) rfl
          have o4 : w4.cell? ⟨OB, 4, none⟩ = some (.string ⟨#[]⟩) := HO4.out.cell (j := 4) rfl
          have r0 : w4.cell? ⟨w.heap.size + 1 + 1, 0, none⟩ = some (.int .i64 0) := HR4.out.cell (j := 0) rfl
          have r1 : w4.cell? ⟨w.heap.size + 1 + 1, 1, none⟩ = some (.int .i64 0) := HR4.out.cell (j := 1) rfl
          have r2 : w4.cell? ⟨w.heap.size + 1 + 1, 2, none⟩ = some (.int .i64 0) := HR4.out.cell (j := 2) rfl
          have r3 : w4.cell? ⟨w.heap.size + 1 + 1, 3, none⟩ = some (.int .i64 0) := HR4.out.cell (j := 3) rfl
          have r4 : w4.cell? ⟨w.heap.size + 1 + 1, 4, none⟩ = some (.string ⟨#[]⟩) := HR4.out.cell (j := 4) rfl
          have z0 := HR4.out.fz 0
          have z1 := HR4.out.fz 1
          have z2 := HR4.out.fz 2
          have z3 := HR4.out.fz 3
          have z4 := HR4.out.fz 4
          go_wp2
          exact ret_step rfl rfl (set5_cells HR4.out) rfl ⟨rfl, set5_below HB4.out (by omega)⟩
        · skip
          have f3 : w4.cell? ⟨w.heap.size, 4, none⟩ = some (.bool true) := HF4.out.cell (j := 4) rfl
          have s3 : w4.cell? ⟨w.heap.size + 1, 4, none⟩ = some (.string T) := HS4.out.cell (j := 4) rfl
          have o3 : w4.cell? ⟨OB, 4, none⟩ = some (.string ⟨#[]⟩) := HO4.out.cell (j := 4) rfl
          have z3 := HO4.out.fz 4
          go_upto_region 10 with fail
          replace HO4 := Lib.hid (HO4.out.set 4 (.string T))
          replace HF4 := Lib.hid (HF4.out.far (a := ⟨OB, 4, none⟩) HNE.out.1 (.string T))
          replace HS4 := Lib.hid (HS4.out.far (a := ⟨OB, 4, none⟩) HNE.out.2.1 (.string T))
          replace HR4 := Lib.hid (HR4.out.far (a := ⟨OB, 4, none⟩) HNE.out.2.2.1 (.string T))
          replace HB4 := Lib.hid (HB4.out.setCell (p := ⟨OB, 4, none⟩) HNE.out.2.2.2 (.string T))
          clear f3 s3 o3 z3
          generalize w4.setCell ⟨OB, 4, none⟩ (.string T) = w5 at *
          clear w4
          replace HO4 : Hid (Cells w5 OB 34 #[.int .i64 kd, .int .i64 0, .int .i64 0, .int .i64 0, .string T]) := HO4
          have o0 : w5.cell? ⟨OB, 0, none⟩ = some (.int .i64 kd) := HO4.out.cell (j := 0) rfl
          have o1 : w5.cell? ⟨OB, 1, none⟩ = some (.int .i64 0) := HO4.out.cell (j := 1) rfl
          have o2 : w5.cell? ⟨OB, 2, none⟩ = some (.int .i64 0) := HO4.out.cell (j := 2) rfl
          have o3 : w5.cell? ⟨OB, 3, none⟩ = some (.int .i64 0) := HO4.out.cell (j := 3) rfl
          have o4 : w5.cell? ⟨OB, 4, none⟩ = some (.string T) := HO4.out.cell (j := 4) rfl
          have r0 : w5.cell? ⟨w.heap.size + 1 + 1, 0, none⟩ = some (.int .i64 0) := HR4.out.cell (j := 0) rfl
          have r1 : w5.cell? ⟨w.heap.size + 1 + 1, 1, none⟩ = some (.int .i64 0) := HR4.out.cell (j := 1) rfl
          have r2 : w5.cell? ⟨w.heap.size + 1 + 1, 2, none⟩ = some (.int .i64 0) := HR4.out.cell (j := 2) rfl
          have r3 : w5.cell? ⟨w.heap.size + 1 + 1, 3, none⟩ = some (.int .i64 0) := HR4.out.cell (j := 3) rfl
          have r4 : w5.cell? ⟨w.heap.size + 1 + 1, 4, none⟩ = some (.string ⟨#[]⟩) := HR4.out.cell (j := 4) rfl
          have z0 := HR4.out.fz 0
          have z1 := HR4.out.fz 1
          have z2 := HR4.out.fz 2
          have z3 := HR4.out.fz 3
          have z4 := HR4.out.fz 4
          go_wp2
          exact ret_step rfl rfl (set5_cells HR4.out) rfl ⟨rfl, set5_below HB4.out (by omega)⟩
      · skip
        have f2 : w4.cell? ⟨w.heap.size, 3, none⟩ = some (.bool true) := HF4.out.cell (j := 3) rfl
        have s2 : w4.cell? ⟨w.heap.size + 1, 3, none⟩ = some (.int .i64 x) := HS4.out.cell (j := 3) rfl
        have o2 : w4.cell? ⟨OB, 3, none⟩ = some (.int .i64 0) := HO4.out.cell (j := 3) rfl
        have z2 := HO4.out.fz 3
        go_upto_region 8 with fail
        replace HO4 := Lib.hid (HO4.out.set 3 (.int .i64 x))
        replace HF4 := Lib.hid (HF4.out.far (a := ⟨OB, 3, none⟩) HNE.out.1 (.int .i64 x))
        replace HS4 := Lib.hid (HS4.out.far (a := ⟨OB, 3, none⟩) HNE.out.2.1 (.int .i64 x))
        replace HR4 := Lib.hid (HR4.out.far (a := ⟨OB, 3, none⟩) HNE.out.2.2.1 (.int .i64 x))
        replace HB4 := Lib.hid (HB4.out.setCell (p := ⟨OB, 3, none⟩) HNE.out.2.2.2 (.int .i64 x))
        clear f2 s2 o2 z2
        generalize w4.setCell ⟨OB, 3, none⟩ (.int .i64 x) = w5 at *
        clear w4
        replace HO4 : Hid (Cells w5 OB 34 #[.int .i64 kd, .int .i64 0, .int .i64 0, .int .i64 x, .string ⟨#[]⟩]) := HO4
        cases ft
        · skip
          have f3 : w5.cell? ⟨w.heap.size, 4, none⟩ = some (.bool false) := HF4.out.cell (j := 4) rfl
          go_upto_region 10 with fail
          clear f3
          have o0 : w5.cell? ⟨OB, 0, none⟩ = some (.int .i64 kd) := HO4.out.cell (j := 0) rfl
          have o1 : w5.cell? ⟨OB, 1, none⟩ = some (.int .i64 0) := HO4.out.cell (j := 1) rfl
          have o2 : w5.cell? ⟨OB, 2, none⟩ = some (.int .i64 0) := HO4.out.cell (j := 2) rfl
          have o3 : w5.cell? ⟨OB, 3, none⟩ = some (.int .i64 x) := HO4.out.cell (j := 3) rfl
          have o4 : w5.cell? ⟨OB, 4, none⟩ = some (.string ⟨#[]⟩) := HO4.out.cell (j := 4) rfl
          have r0 : w5.cell? ⟨w.heap.size + 1 + 1, 0, none⟩ = some (.int .i64 0) := HR4.out.cell (j := 0) rfl
          have r1 : w5.cell? ⟨w.heap.size + 1 + 1, 1, none⟩ = some (.int .i64 0) := HR4.out.cell (j := 1) rfl
          have r2 : w5.cell? ⟨w.heap.size + 1 + 1, 2, none⟩ = some (.int .i64 0) := HR4.out.cell (j := 2) rfl
          have r3 : w5.cell? ⟨w.heap.size + 1 + 1, 3, none⟩ = some (.int .i64 0) := HR4.out.cell (j := 3) rfl
          have r4 : w5.cell? ⟨w.heap.size + 1 + 1, 4, none⟩ = some (.string ⟨#[]⟩) := HR4.out.cell (j := 4) rfl
          have z0 := HR4.out.fz 0
          have z1 := HR4.out.fz 1
          have z2 := HR4.out.fz 2
          have z3 := HR4.out.fz 3
          have z4 := HR4.out.fz 4
          go_wp2
          exact ret_step rfl rfl (set5_cells HR4.out) rfl ⟨rfl, set5_below HB4.out (by omega)⟩
        · skip
          have f3 : w5.cell? ⟨w.heap.size, 4, none⟩ = some (.bool true) := HF4.out.cell (j := 4) rfl
          have s3 : w5.cell? ⟨w.heap.size + 1, 4, none⟩ = some (.string T) := HS4.out.cell (j := 4) rfl
          have o3 : w5.cell? ⟨OB, 4, none⟩ = some (.string ⟨#[]⟩) := HO4.out.cell (j := 4) rfl
          have z3 := HO4.out.fz 4
          go_upto_region 10 with fail
          replace HO4 := Lib.hid (HO4.out.set 4 (.string T))
          replace HF4 := Lib.hid (HF4.out.far (a := ⟨OB, 4, none⟩) HNE.out.1 (.string T))
          replace HS4 := Lib.hid (HS4.out.far (a := ⟨OB, 4, none⟩) HNE.out.2.1 (.string T))
          replace HR4 := Lib.hid (HR4.out.far (a := ⟨OB, 4, none⟩) HNE.out.2.2.1 (.string T))
          replace HB4 := Lib.hid (HB4.out.setCell (p := ⟨OB, 4, none⟩) HNE.out.2.2.2 (.string T))
          clear f3 s3 o3 z3
          generalize w5.setCell ⟨OB, 4, none⟩ (.string T) = w6 at *
          clear w5
          replace HO4 : Hid (Cells w6 OB 34 #[.int .i64 kd, .int .i64 0, .int .i64 0, .int .i64 x, .string T]) := HO4
          have o0 : w6.cell? ⟨OB, 0, none⟩ = some (.int .i64 kd) := HO4.out.cell (j := 0) rfl
          have o1 : w6.cell? ⟨OB, 1, none⟩ = some (.int .i64 0) := HO4.out.cell (j := 1) rfl
          have o2 : w6.cell? ⟨OB, 2, none⟩ = some (.int .i64 0) := HO4.out.cell (j := 2) rfl
          have o3 : w6.cell? ⟨OB, 3, none⟩ = some (.int .i64 x) := HO4.out.cell (j := 3) rfl
          have o4 : w6.cell? ⟨OB, 4, none⟩ = some (.string T) := HO4.out.cell (j := 4) rfl
          have r0 : w6.cell? ⟨w.heap.size + 1 + 1, 0, none⟩ = some (.int .i64 0) := HR4.out.cell (j := 0) rfl
          have r1 : w6.cell? ⟨w.heap.size + 1 + 1, 1, none⟩ = some (.int .i64 0) := HR4.out.cell (j := 1) rfl
          have r2 : w6.cell? ⟨w.heap.size + 1 + 1, 2, none⟩ = some (.int .i64 0) := HR4.out.cell (j := 2) rfl
          have r3 : w6.cell? ⟨w.heap.size + 1 + 1, 3, none⟩ = some (.int .i64 0) := HR4.out.cell (j := 3) rfl
          have r4 : w6.cell? ⟨w.heap.size + 1 + 1, 4, none⟩ = some (.string ⟨#[]⟩) := HR4.out.cell (j := 4) rfl
          have z0 := HR4.out.fz 0
          have z1 := HR4.out.fz 1
          have z2 := HR4.out.fz 2
          have z3 := HR4.out.fz 3
          have z4 := HR4.out.fz 4
          go_wp2
          exact ret_step rfl rfl (set5_cells HR4.out) rfl ⟨rfl, set5_below HB4.out (by omega)⟩
    · skip
      have f1 : w4.cell? ⟨w.heap.size, 2, none⟩ = some (.bool true) := HF4.out.cell (j := 2) rfl
      have s1 : w4.cell? ⟨w.heap.size + 1, 2, none⟩ = some (.int .i64 k) := HS4.out.cell (j := 2) rfl
      have o1 : w4.cell? ⟨OB, 2, none⟩ = some (.int .i64 0) := HO4.out.cell (j := 2) rfl
      have z1 := HO4.out.fz 2
      go_upto_region 6 with fail
      replace HO4 := Lib.hid (HO4.out.set 2 (.int .i64 k))
      replace HF4 := Lib.hid (HF4.out.far (a := ⟨OB, 2, none⟩) HNE.out.1 (.int .i64 k))
      replace HS4 := Lib.hid (HS4.out.far (a := ⟨OB, 2, none⟩) HNE.out.2.1 (.int .i64 k))
      replace HR4 := Lib.hid (HR4.out.far (a := ⟨OB, 2, none⟩) HNE.out.2.2.1 (.int .i64 k))
      replace HB4 := Lib.hid (HB4.out.setCell (p := ⟨OB, 2, none⟩) HNE.out.2.2.2 (.int .i64 k))
      clear f1 s1 o1 z1
      generalize w4.setCell ⟨OB, 2, none⟩ (.int .i64 k) = w5 at *
      clear w4
      replace HO4 : Hid (Cells w5 OB 34 #[.int .i64 kd, .int .i64 0, .int .i64 k, .int .i64 0, .string ⟨#[]⟩]) := HO4
      cases fx
      · skip
        have f2 : w5.cell? ⟨w.heap.size, 3, none⟩ = some (.bool false) := HF4.out.cell (j := 3) rfl
        go_upto_region 8 with fail
        clear f2
        cases ft
        · skip
          have f3 : w5.cell? ⟨w.heap.size, 4, none⟩ = some (.bool false) := HF4.out.cell (j := 4) rfl
          go_upto_region 10 with fail
          clear f3
          have o0 : w5.cell? ⟨OB, 0, none⟩ = some (.int .i64 kd) := HO4.out.cell (j := 0) rfl
          have o1 : w5.cell? ⟨OB, 1, none⟩ = some (.int .i64 0) := HO4.out.cell (j := 1) rfl
          have o2 : w5.cell? ⟨OB, 2, none⟩ = some (.int .i64 k) := HO4.out.cell (j := 2) rfl
          have o3 : w5.cell? ⟨OB, 3, none⟩ = some (.int .i64 0) := HO4.out.cell (j := 3) rfl
          have o4 : w5.cell? ⟨OB, 4, none⟩ = some (.string ⟨#[]⟩) := HO4.out.cell (j := 4) rfl
          have r0 : w5.cell? ⟨w.heap.size + 1 + 1, 0, none⟩ = some (.int .i64 0) := HR4.out.cell (j := 0) rfl
          have r1 : w5.cell? ⟨w.heap.size + 1 + 1, 1, none⟩ = some (.int .i64 0) := HR4.out.cell (j := 1) rfl
          have r2 : w5.cell? ⟨w.heap.size + 1 + 1, 2, none⟩ = some (.int .i64 0) := HR4.out.cell (j := 2) rfl
          have r3 : w5.cell? ⟨w.heap.size + 1 + 1, 3, none⟩ = some (.int .i64 0) := HR4.out.cell (j := 3) rfl
          have r4 : w5.cell? ⟨w.heap.size + 1 + 1, 4, none⟩ = some (.string ⟨#[]⟩) := HR4.out.cell (j := 4) rfl
          have z0 := HR4.out.fz 0
          have z1 := HR4.out.fz 1
          have z2 := HR4.out.fz 2
          have z3 := HR4.out.fz 3
          have z4 := HR4.out.fz 4
          go_wp2
          exact ret_step rfl rfl (set5_cells HR4.out) rfl ⟨rfl, set5_below HB4.out (by omega)⟩
        · skip
          have f3 : w5.cell? ⟨w.heap.size, 4, none⟩ = some (.bool true) := HF4.out.cell (j := 4) rfl
          have s3 : w5.cell? ⟨w.heap.size + 1, 4, none⟩ = some (.string T) := HS4.out.cell (j := 4) rfl
          have o3 : w5.cell? ⟨OB, 4, none⟩ = some (.string ⟨#[]⟩) := HO4.out.cell (j := 4) rfl
          have z3 := HO4.out.fz 4
          go_upto_region 10 with fail
          replace HO4 := Lib.hid (HO4.out.set 4 (.string T))
          replace HF4 := Lib.hid (HF4.out.far (a := ⟨OB, 4, none⟩) HNE.out.1 (.string T))
          replace HS4 := Lib.hid (HS4.out.far (a := ⟨OB, 4, none⟩) HNE.out.2.1 (.string T))
          replace HR4 := Lib.hid (HR4.out.far (a := ⟨OB, 4, none⟩) HNE.out.2.2.1 (.string T))
          replace HB4 := Lib.hid (HB4.out.setCell (p := ⟨OB, 4, none⟩) HNE.out.2.2.2 (.string T))
          clear f3 s3 o3 z3
          generalize w5.setCell ⟨OB, 4, none⟩ (.string T) = w6 at *
          clear w5
          replace HO4 : Hid (Cells w6 OB 34 #[.int .i64 kd, .int .i64 0, .int .i64 k, .int .i64 0, .string T]) := HO4
          have o0 : w6.cell? ⟨OB, 0, none⟩ = some (.int .i64 kd) := HO4.out.cell (j := 0) rfl
          have o1 : w6.cell? ⟨OB, 1, none⟩ = some (.int .i64 0) := HO4.out.cell (j := 1) rfl
          have o2 : w6.cell? ⟨OB, 2, none⟩ = some (.int .i64 k) := HO4.out.cell (j := 2) rfl
          have o3 : w6.cell? ⟨OB, 3, none⟩ = some (.int .i64 0) := HO4.out.cell (j := 3) rfl
          have o4 : w6.cell? ⟨OB, 4, none⟩ = some (.string T) := HO4.out.cell (j := 4) rfl
          have r0 : w6.cell? ⟨w.heap.size + 1 + 1, 0, none⟩ = some (.int .i64 0) := HR4.out.cell (j := 0) rfl
          have r1 : w6.cell? ⟨w.heap.size + 1 + 1, 1, none⟩ = some (.int .i64 0) := HR4.out.cell (j := 1) rfl
          have r2 : w6.cell? ⟨w.heap.size + 1 + 1, 2, none⟩ = some (.int .i64 0) := HR4.out.cell (j := 2) rfl
          have r3 : w6.cell? ⟨w.heap.size + 1 + 1, 3, none⟩ = some (.int .i64 0) := HR4.out.cell (j := 3) rfl
          have r4 : w6.cell? ⟨w.heap.size + 1 + 1, 4, none⟩ = some (.string ⟨#[]⟩) := HR4.out.cell (j := 4) rfl
          have z0 := HR4.out.fz 0
          have z1 := HR4.out.fz 1
          have z2 := HR4.out.fz 2
          have z3 := HR4.out.fz 3
          have z4 := HR4.out.fz 4
          go_wp2
          exact ret_step rfl rfl (set5_cells HR4.out) rfl ⟨rfl, set5_below HB4.out (by omega)⟩
      · skip
        have f2 : w5.cell? ⟨w.heap.size, 3, none⟩ = some (.bool true) := HF4.out.cell (j := 3) rfl
        have s2 : w5.cell? ⟨w.heap.size + 1, 3, none⟩ = some (.int .i64 x) := HS4.out.cell (j := 3) rfl
        have o2 : w5.cell? ⟨OB, 3, none⟩ = some (.int .i64 0) := HO4.out.cell (j := 3) rfl
        have z2 := HO4.out.fz 3
        go_upto_region 8 with fail
        replace HO4 := Lib.hid (HO4.out.set 3 (.int .i64 x))
        replace HF4 := Lib.hid (HF4.out.far (a := ⟨OB, 3, none⟩) HNE.out.1 (.int .i64 x))
        replace HS4 := Lib.hid (HS4.out.far (a := ⟨OB, 3, none⟩) HNE.out.2.1 (.int .i64 x))
        replace HR4 := Lib.hid (HR4.out.far (a := ⟨OB, 3, none⟩) HNE.out.2.2.1 (.int .i64 x))
        replace HB4 := Lib.hid (HB4.out.setCell (p := ⟨OB, 3, none⟩) HNE.out.2.2.2 (.int .i64 x))
        clear f2 s2 o2 z2
        generalize w5.setCell ⟨OB, 3, none⟩ (.int .i64 x) = w6 at *
        clear w5
        replace HO4 : Hid (Cells w6 OB 34 #[.int .i64 kd, .int .i64 0, .int .i64 k, .int .i64 x, .string ⟨#[]⟩]) := HO4
        cases ft
        · skip
          have f3 : w6.cell? ⟨w.heap.size, 4, none⟩ = some (.bool false) := HF4.out.cell (j := 4) rfl
          go_upto_region 10 with fail
          clear f3
          have o0 : w6.cell? ⟨OB, 0, none⟩ = some (.int .i64 kd) := HO4.out.cell (j := 0) rfl
          have o1 : w6.cell? ⟨OB, 1, none⟩ = some (.int .i64 0) := HO4.out.cell (j := 1) rfl
          have o2 : w6.cell? ⟨OB, 2, none⟩ = some (.int .i64 k) := HO4.out.cell (j := 2) rfl
          have o3 : w6.cell? ⟨OB, 3, none⟩ = some (.int .i64 x) := HO4.out.cell (j := 3) rfl
          have o4 : w6.cell? ⟨OB, 4, none⟩ = some (.string ⟨#[]⟩) := HO4.out.cell (j := 4) rfl
          have r0 : w6.cell? ⟨w.heap.size + 1 + 1, 0, none⟩ = some (.int .i64 0) := HR4.out.cell (j := 0) rfl
          have r1 : w6.cell? ⟨w.heap.size + 1 + 1, 1, none⟩ = some (.int .i64 0) := HR4.out.cell (j := 1) rfl
          have r2 : w6.cell? ⟨w.heap.size + 1 + 1, 2, none⟩ = some (.int .i64 0) := HR4.out.cell (j := 2) rfl
          have r3 : w6.cell? ⟨w.heap.size + 1 + 1, 3, none⟩ = some (.int .i64 0) := HR4.out.cell (j := 3) rfl
          have r4 : w6.cell? ⟨w.heap.size + 1 + 1, 4, none⟩ = some (.string ⟨#[]⟩) := HR4.out.cell (j := 4) rfl
          have z0 := HR4.out.fz 0
          have z1 := HR4.out.fz 1
          have z2 := HR4.out.fz 2
          have z3 := HR4.out.fz 3
          have z4 := HR4.out.fz 4
          go_wp2
          exact ret_step rfl rfl (set5_cells HR4.out) rfl ⟨rfl, set5_below HB4.out (by omega)⟩
        · skip
          have f3 : w6.cell? ⟨w.heap.size, 4, none⟩ = some (.bool true) := HF4.out.cell (j := 4) rfl
          have s3 : w6.cell? ⟨w.heap.size + 1, 4, none⟩ = some (.string T) := HS4.out.cell (j := 4) rfl
          have o3 : w6.cell? ⟨OB, 4, none⟩ = some (.string ⟨#[]⟩) := HO4.out.cell (j := 4) rfl
          have z3 := HO4.out.fz 4
          go_upto_region 10 with fail
          replace HO4 := Lib.hid (HO4.out.set 4 (.string T))
          replace HF4 := Lib.hid (HF4.out.far (a := ⟨OB, 4, none⟩) HNE.out.1 (.string T))
          replace HS4 := Lib.hid (HS4.out.far (a := ⟨OB, 4, none⟩) HNE.out.2.1 (.string T))
          replace HR4 := Lib.hid (HR4.out.far (a := ⟨OB, 4, none⟩) HNE.out.2.2.1 (.string T))
          replace HB4 := Lib.hid (HB4.out.setCell (p := ⟨OB, 4, none⟩) HNE.out.2.2.2 (.string T))
          clear f3 s3 o3 z3
          generalize w6.setCell ⟨OB, 4, none⟩ (.string T) = w7 at *
          clear w6
          replace HO4 : Hid (Cells w7 OB 34 #[.int .i64 kd, .int .i64 0, .int .i64 k, .int .i64 x, .string T]) := HO4
          have o0 : w7.cell? ⟨OB, 0, none⟩ = some (.int .i64 kd) := HO4.out.cell (j := 0) rfl
          have o1 : w7.cell? ⟨OB, 1, none⟩ = some (.int .i64 0) := HO4.out.cell (j := 1) rfl
          have o2 : w7.cell? ⟨OB, 2, none⟩ = some (.int .i64 k) := HO4.out.cell (j := 2) rfl
          have o3 : w7.cell? ⟨OB, 3, none⟩ = some (.int .i64 x) := HO4.out.cell (j := 3) rfl
          have o4 : w7.cell? ⟨OB, 4, none⟩ = some (.string T) := HO4.out.cell (j := 4) rfl
          have r0 : w7.cell? ⟨w.heap.size + 1 + 1, 0, none⟩ = some (.int .i64 0) := HR4.out.cell (j := 0) rfl
          have r1 : w7.cell? ⟨w.heap.size + 1 + 1, 1, none⟩ = some (.int .i64 0) := HR4.out.cell (j := 1) rfl
          have r2 : w7.cell? ⟨w.heap.size + 1 + 1, 2, none⟩ = some (.int .i64 0) := HR4.out.cell (j := 2) rfl
          have r3 : w7.cell? ⟨w.heap.size + 1 + 1, 3, none⟩ = some (.int .i64 0) := HR4.out.cell (j := 3) rfl
          have r4 : w7.cell? ⟨w.heap.size + 1 + 1, 4, none⟩ = some (.string ⟨#[]⟩) := HR4.out.cell (j := 4) rfl
          have z0 := HR4.out.fz 0
          have z1 := HR4.out.fz 1
          have z2 := HR4.out.fz 2
          have z3 := HR4.out.fz 3
          have z4 := HR4.out.fz 4
          go_wp2
          exact ret_step rfl rfl (set5_cells HR4.out) rfl ⟨rfl, set5_below HB4.out (by omega)⟩
  · skip
    have f0 : w4.cell? ⟨w.heap.size, 1, none⟩ = some (.bool true) := HF4.out.cell (j := 1) rfl
    have s0 : w4.cell? ⟨w.heap.size + 1, 1, none⟩ = some (.int .i64 a) := HS4.out.cell (j := 1) rfl
    have o0 : w4.cell? ⟨OB, 1, none⟩ = some (.int .i64 0) := HO4.out.cell (j := 1) rfl
    have z0 := HO4.out.fz 1
    go_upto_region 4 with fail
    replace HO4 := Lib.hid (HO4.out.set 1 (.int .i64 a))
    replace HF4 := Lib.hid (HF4.out.far (a := ⟨OB, 1, none⟩) HNE.out.1 (.int .i64 a))
    replace HS4 := Lib.hid (HS4.out.far (a := ⟨OB, 1, none⟩) HNE.out.2.1 (.int .i64 a))
    replace HR4 := Lib.hid (HR4.out.far (a := ⟨OB, 1, none⟩) HNE.out.2.2.1 (.int .i64 a))
    replace HB4 := Lib.hid (HB4.out.setCell (p := ⟨OB, 1, none⟩) HNE.out.2.2.2 (.int .i64 a))
    clear f0 s0 o0 z0
    generalize w4.setCell ⟨OB, 1, none⟩ (.int .i64 a) = w5 at *
    clear w4
    replace HO4 : Hid (Cells w5 OB 34 #[.int .i64 kd, .int .i64 a, .int .i64 0, .int .i64 0, .string ⟨#[]⟩]) := HO4
    cases fk
    · skip
      have f1 : w5.cell? ⟨w.heap.size, 2, none⟩ = some (.bool false) := HF4.out.cell (j := 2) rfl
      go_upto_region 6 with fail
      clear f1
      cases fx
      · skip
        have f2 : w5.cell? ⟨w.heap.size, 3, none⟩ = some (.bool false) := HF4.out.cell (j := 3) rfl
        go_upto_region 8 with fail
        clear f2
        cases ft
        · skip
          have f3 : w5.cell? ⟨w.heap.size, 4, none⟩ = some (.bool false) := HF4.out.cell (j := 4) rfl
          go_upto_region 10 with fail
          clear f3
          have o0 : w5.cell? ⟨OB, 0, none⟩ = some (.int .i64 kd) := HO4.out.cell (j := 0) rfl
          have o1 : w5.cell? ⟨OB, 1, none⟩ = some (.int .i64 a) := HO4.out.cell (j := 1) rfl
          have o2 : w5.cell? ⟨OB, 2, none⟩ = some (.int .i64 0) := HO4.out.cell (j := 2) rfl
          have o3 : w5.cell? ⟨OB, 3, none⟩ = some (.int .i64 0) := HO4.out.cell (j := 3) rfl
          have o4 : w5.cell? ⟨OB, 4, none⟩ = some (.string ⟨#[]⟩) := HO4.out.cell (j := 4) rfl
          have r0 : w5.cell? ⟨w.heap.size + 1 + 1, 0, none⟩ = some (.int .i64 0) := HR4.out.cell (j := 0) rfl
          have r1 : w5.cell? ⟨w.heap.size + 1 + 1, 1, none⟩ = some (.int .i64 0) := HR4.out.cell (j := 1) rfl
          have r2 : w5.cell? ⟨w.heap.size + 1 + 1, 2, none⟩ = some (.int .i64 0) := HR4.out.cell (j := 2) rfl
          have r3 : w5.cell? ⟨w.heap.size + 1 + 1, 3, none⟩ = some (.int .i64 0) := HR4.out.cell (j := 3) rfl
          have r4 : w5.cell? ⟨w.heap.size + 1 + 1, 4, none⟩ = some (.string ⟨#[]⟩) := HR4.out.cell (j := 4) rfl
          have z0 := HR4.out.fz 0
          have z1 := HR4.out.fz 1
          have z2 := HR4.out.fz 2
          have z3 := HR4.out.fz 3
          have z4 := HR4.out.fz 4
          go_wp2
          exact ret_step rfl rfl (set5_cells HR4.out) rfl ⟨rfl, set5_below HB4.out (by omega)⟩
        · skip
          have f3 : w5.cell? ⟨w.heap.size, 4, none⟩ = some (.bool true) := HF4.out.cell (j := 4) rfl
          have s3 : w5.cell? ⟨w.heap.size + 1, 4, none⟩ = some (.string T) := HS4.out.cell (j := 4) rfl
          have o3 : w5.cell? ⟨OB, 4, none⟩ = some (.string ⟨#[]⟩) := HO4.out.cell (j := 4) rfl
          have z3 := HO4.out.fz 4
          go_upto_region 10 with fail
          replace HO4 := Lib.hid (HO4.out.set 4 (.string T))
          replace HF4 := Lib.hid (HF4.out.far (a := ⟨OB, 4, none⟩) HNE.out.1 (.string T))
          replace HS4 := Lib.hid (HS4.out.far (a := ⟨OB, 4, none⟩) HNE.out.2.1 (.string T))
          replace HR4 := Lib.hid (HR4.out.far (a := ⟨OB, 4, none⟩) HNE.out.2.2.1 (.string T))
          replace HB4 := Lib.hid (HB4.out.setCell (p := ⟨OB, 4, none⟩) HNE.out.2.2.2 (.string T))
          clear f3 s3 o3 z3
          generalize w5.setCell ⟨OB, 4, none⟩ (.string T) = w6 at *
          clear w5
          replace HO4 : Hid (Cells w6 OB 34 #[.int .i64 kd, .int .i64 a, .int .i64 0, .int .i64 0, .string T]) := HO4
          have o0 : w6.cell? ⟨OB, 0, none⟩ = some (.int .i64 kd) := HO4.out.cell (j := 0) rfl
          have o1 : w6.cell? ⟨OB, 1, none⟩ = some (.int .i64 a) := HO4.out.cell (j := 1) rfl
          have o2 : w6.cell? ⟨OB, 2, none⟩ = some (.int .i64 0) := HO4.out.cell (j := 2) rfl
          have o3 : w6.cell? ⟨OB, 3, none⟩ = some (.int .i64 0) := HO4.out.cell (j := 3) rfl
          have o4 : w6.cell? ⟨OB, 4, none⟩ = some (.string T) := HO4.out.cell (j := 4) rfl
          have r0 : w6.cell? ⟨w.heap.size + 1 + 1, 0, none⟩ = some (.int .i64 0) := HR4.out.cell (j := 0) rfl
          have r1 : w6.cell? ⟨w.heap.size + 1 + 1, 1, none⟩ = some (.int .i64 0) := HR4.out.cell (j := 1) rfl
          have r2 : w6.cell? ⟨w.heap.size + 1 + 1, 2, none⟩ = some (.int .i64 0) := HR4.out.cell (j := 2) rfl
          have r3 : w6.cell? ⟨w.heap.size + 1 + 1, 3, none⟩ = some (.int .i64 0) := HR4.out.cell (j := 3) rfl
          have r4 : w6.cell? ⟨w.heap.size + 1 + 1, 4, none⟩ = some (.string ⟨#[]⟩) := HR4.out.cell (j := 4) rfl
          have z0 := HR4.out.fz 0
          have z1 := HR4.out.fz 1
          have z2 := HR4.out.fz 2
          have z3 := HR4.out.fz 3
          have z4 := HR4.out.fz 4
          go_wp2
          exact ret_step rfl rfl (set5_cells HR4.out) rfl ⟨rfl, set5_below HB4.out (by omega)⟩
      · skip
        have f2 : w5.cell? ⟨w.heap.size, 3, none⟩ = some (.bool true) := HF4.out.cell (j := 3) rfl
        have s2 : w5.cell? ⟨w.heap.size + 1, 3, none⟩ = some (.int .i64 x) := HS4.out.cell (j := 3) rfl
        have o2 : w5.cell? ⟨OB, 3, none⟩ = some (.int .i64 0) := HO4.out.cell (j := 3) rfl
        have z2 := HO4.out.fz 3
        go_upto_region 8 with fail
        replace HO4 := Lib.hid (HO4.out.set 3 (.int .i64 x))
        replace HF4 := Lib.hid (HF4.out.far (a := ⟨OB, 3, none⟩) HNE.out.1 (.int .i64 x))
        replace HS4 := Lib.hid (HS4.out.far (a := ⟨OB, 3, none⟩) HNE.out.2.1 (.int .i64 x))
        replace HR4 := Lib.hid (HR4.out.far (a := ⟨OB, 3, none⟩) HNE.out.2.2.1 (.int .i64 x))
        replace HB4 := Lib.hid (HB4.out.setCell (p := ⟨OB, 3, none⟩) HNE.out.2.2.2 (.int .i64 x))
        clear f2 s2 o2 z2
        generalize w5.setCell ⟨OB, 3, none⟩ (.int .i64 x) = w6 at *
        clear w5
        replace HO4 : Hid (Cells w6 OB 34 #[.int .i64 kd, .int .i64 a, .int .i64 0, .int .i64 x, .string ⟨#[]⟩]) := HO4
        cases ft
        · skip
          have f3 : w6.cell? ⟨w.heap.size, 4, none⟩ = some (.bool false) := HF4.out.cell (j := 4) rfl
          go_upto_region 10 with fail
          clear f3
          have o0 : w6.cell? ⟨OB, 0, none⟩ = some (.int .i64 kd) := HO4.out.cell (j := 0) rfl
          have o1 : w6.cell? ⟨OB, 1, none⟩ = some (.int .i64 a) := HO4.out.cell (j := 1) rfl
          have o2 : w6.cell? ⟨OB, 2, none⟩ = some (.int .i64 0) := HO4.out.cell (j := 2) rfl
          have o3 : w6.cell? ⟨OB, 3, none⟩ = some (.int .i64 x) := HO4.out.cell (j := 3) rfl
          have o4 : w6.cell? ⟨OB, 4, none⟩ = some (.string ⟨#[]⟩) := HO4.out.cell (j := 4) rfl
          have r0 : w6.cell? ⟨w.heap.size + 1 + 1, 0, none⟩ = some (.int .i64 0) := HR4.out.cell (j := 0) rfl
          have r1 : w6.cell? ⟨w.heap.size + 1 + 1, 1, none⟩ = some (.int .i64 0) := HR4.out.cell (j := 1) rfl
          have r2 : w6.cell? ⟨w.heap.size + 1 + 1, 2, none⟩ = some (.int .i64 0) := HR4.out.cell (j := 2) rfl
          have r3 : w6.cell? ⟨w.heap.size + 1 + 1, 3, none⟩ = some (.int .i64 0) := HR4.out.cell (j := 3) rfl
          have r4 : w6.cell? ⟨w.heap.size + 1 + 1, 4, none⟩ = some (.string ⟨#[]⟩) := HR4.out.cell (j := 4) rfl
          have z0 := HR4.out.fz 0
          have z1 := HR4.out.fz 1
          have z2 := HR4.out.fz 2
          have z3 := HR4.out.fz 3
          have z4 := HR4.out.fz 4
          go_wp2
          exact ret_step rfl rfl (set5_cells HR4.out) rfl ⟨rfl, set5_below HB4.out (by omega)⟩
        · skip
          have f3 : w6.cell? ⟨w.heap.size, 4, none⟩ = some (.bool true) := HF4.out.cell (j := 4) rfl
          have s3 : w6.cell? ⟨w.heap.size + 1, 4, none⟩ = some (.string T) := HS4.out.cell (j := 4) rfl
          have o3 : w6.cell? ⟨OB, 4, none⟩ = some (.string ⟨#[]⟩) := HO4.out.cell (j := 4) rfl
          have z3 := HO4.out.fz 4
          go_upto_region 10 with fail
          replace HO4 := Lib.hid (HO4.out.set 4 (.string T))
          replace HF4 := Lib.hid (HF4.out.far (a := ⟨OB, 4, none⟩) HNE.out.1 (.string T))
          replace HS4 := Lib.hid (HS4.out.far (a := ⟨OB, 4, none⟩) HNE.out.2.1 (.string T))
          replace HR4 := Lib.hid (HR4.out.far (a := ⟨OB, 4, none⟩) HNE.out.2.2.1 (.string T))
          replace HB4 := Lib.hid (HB4.out.setCell (p := ⟨OB, 4, none⟩) HNE.out.2.2.2 (.string T))
          clear f3 s3 o3 z3
          generalize w6.setCell ⟨OB, 4, none⟩ (.string T) = w7 at *
          clear w6
          replace HO4 : Hid (Cells w7 OB 34 #[.int .i64 kd, .int .i64 a, .int .i64 0, .int .i64 x, .string T]) := HO4
          have o0 : w7.cell? ⟨OB, 0, none⟩ = some (.int .i64 kd) := HO4.out.cell (j := 0) rfl
          have o1 : w7.cell? ⟨OB, 1, none⟩ = some (.int .i64 a) := HO4.out.cell (j := 1) rfl
          have o2 : w7.cell? ⟨OB, 2, none⟩ = some (.int .i64 0) := HO4.out.cell (j := 2) rfl
          have o3 : w7.cell? ⟨OB, 3, none⟩ = some (.int .i64 x) := HO4.out.cell (j := 3) rfl
          have o4 : w7.cell? ⟨OB, 4, none⟩ = some (.string T) := HO4.out.cell (j := 4) rfl
          have r0 : w7.cell? ⟨w.heap.size + 1 + 1, 0, none⟩ = some (.int .i64 0) := HR4.out.cell (j := 0) rfl
          have r1 : w7.cell? ⟨w.heap.size + 1 + 1, 1, none⟩ = some (.int .i64 0) := HR4.out.cell (j := 1) rfl
          have r2 : w7.cell? ⟨w.heap.size + 1 + 1, 2, none⟩ = some (.int .i64 0) := HR4.out.cell (j := 2) rfl
          have r3 : w7.cell? ⟨w.heap.size + 1 + 1, 3, none⟩ = some (.int .i64 0) := HR4.out.cell (j := 3) rfl
          have r4 : w7.cell? ⟨w.heap.size + 1 + 1, 4, none⟩ = some (.string ⟨#[]⟩) := HR4.out.cell (j := 4) rfl
          have z0 := HR4.out.fz 0
          have z1 := HR4.out.fz 1
          have z2 := HR4.out.fz 2
          have z3 := HR4.out.fz 3
          have z4 := HR4.out.fz 4
          go_wp2
          exact ret_step rfl rfl (set5_cells HR4.out) rfl ⟨rfl, set5_below HB4.out (by omega)⟩
    · skip
      have f1 : w5.cell? ⟨w.heap.size, 2, none⟩ = some (.bool true) := HF4.out.cell (j := 2) rfl
      have s1 : w5.cell? ⟨w.heap.size + 1, 2, none⟩ = some (.int .i64 k) := HS4.out.cell (j := 2) rfl
      have o1 : w5.cell? ⟨OB, 2, none⟩ = some (.int .i64 0) := HO4.out.cell (j := 2) rfl
      have z1 := HO4.out.fz 2
      go_upto_region 6 with fail
      replace HO4 := Lib.hid (HO4.out.set 2 (.int .i64 k))
      replace HF4 := Lib.hid (HF4.out.far (a := ⟨OB, 2, none⟩) HNE.out.1 (.int .i64 k))
      replace HS4 := Lib.hid (HS4.out.far (a := ⟨OB, 2, none⟩) HNE.out.2.1 (.int .i64 k))
      replace HR4 := Lib.hid (HR4.out.far (a := ⟨OB, 2, none⟩) HNE.out.2.2.1 (.int .i64 k))
      replace HB4 := Lib.hid (HB4.out.setCell (p := ⟨OB, 2, none⟩) HNE.out.2.2.2 (.int .i64 k))
      clear f1 s1 o1 z1
      generalize w5.setCell ⟨OB, 2, none⟩ (.int .i64 k) = w6 at *
      clear w5
      replace HO4 : Hid (Cells w6 OB 34 #[.int .i64 kd, .int .i64 a, .int .i64 k, .int .i64 0, .string ⟨#[]⟩]) := HO4
      cases fx
      · skip
        have f2 : w6.cell? ⟨w.heap.size, 3, none⟩ = some (.bool false) := HF4.out.cell (j := 3) rfl
        go_upto_region 8 with fail
        clear f2
        cases ft
        · skip
          have f3 : w6.cell? ⟨w.heap.size, 4, none⟩ = some (.bool false) := HF4.out.cell (j := 4) rfl
          go_upto_region 10 with fail
          clear f3
          have o0 : w6.cell? ⟨OB, 0, none⟩ = some (.int .i64 kd) := HO4.out.cell (j := 0) rfl
          have o1 : w6.cell? ⟨OB, 1, none⟩ = some (.int .i64 a) := HO4.out.cell (j := 1) rfl
          have o2 : w6.cell? ⟨OB, 2, none⟩ = some (.int .i64 k) := HO4.out.cell (j := 2) rfl
          have o3 : w6.cell? ⟨OB, 3, none⟩ = some (.int .i64 0) := HO4.out.cell (j := 3) rfl
          have o4 : w6.cell? ⟨OB, 4, none⟩ = some (.string ⟨#[]⟩) := HO4.out.cell (j := 4) rfl
          have r0 : w6.cell? ⟨w.heap.size + 1 + 1, 0, none⟩ = some (.int .i64 0) := HR4.out.cell (j := 0) rfl
          have r1 : w6.cell? ⟨w.heap.size + 1 + 1, 1, none⟩ = some (.int .i64 0) := HR4.out.cell (j := 1) rfl
          have r2 : w6.cell? ⟨w.heap.size + 1 + 1, 2, none⟩ = some (.int .i64 0) := HR4.out.cell (j := 2) rfl
          have r3 : w6.cell? ⟨w.heap.size + 1 + 1, 3, none⟩ = some (.int .i64 0) := HR4.out.cell (j := 3) rfl
          have r4 : w6.cell? ⟨w.heap.size + 1 + 1, 4, none⟩ = some (.string ⟨#[]⟩) := HR4.out.cell (j := 4) rfl
          have z0 := HR4.out.fz 0
          have z1 := HR4.out.fz 1
          have z2 := HR4.out.fz 2
          have z3 := HR4.out.fz 3
          have z4 := HR4.out.fz 4
          go_wp2
          exact ret_step rfl rfl (set5_cells HR4.out) rfl ⟨rfl, set5_below HB4.out (by omega)⟩
        · skip
          have f3 : w6.cell? ⟨w.heap.size, 4, none⟩ = some (.bool true) := HF4.out.cell (j := 4) rfl
          have s3 : w6.cell? ⟨w.heap.size + 1, 4, none⟩ = some (.string T) := HS4.out.cell (j := 4) rfl
          have o3 : w6.cell? ⟨OB, 4, none⟩ = some (.string ⟨#[]⟩) := HO4.out.cell (j := 4) rfl
          have z3 := HO4.out.fz 4
          go_upto_region 10 with fail
          replace HO4 := Lib.hid (HO4.out.set 4 (.string T))
          replace HF4 := Lib.hid (HF4.out.far (a := ⟨OB, 4, none⟩) HNE.out.1 (.string T))
          replace HS4 := Lib.hid (HS4.out.far (a := ⟨OB, 4, none⟩) HNE.out.2.1 (.string T))
          replace HR4 := Lib.hid (HR4.out.far (a := ⟨OB, 4, none⟩) HNE.out.2.2.1 (.string T))
          replace HB4 := Lib.hid (HB4.out.setCell (p := ⟨OB, 4, none⟩) HNE.out.2.2.2 (.string T))
          clear f3 s3 o3 z3
          generalize w6.setCell ⟨OB, 4, none⟩ (.string T) = w7 at *
          clear w6
          replace HO4 : Hid (Cells w7 OB 34 #[.int .i64 kd, .int .i64 a, .int .i64 k, .int .i64 0, .string T]) := HO4
          have o0 : w7.cell? ⟨OB, 0, none⟩ = some (.int .i64 kd) := HO4.out.cell (j := 0) rfl
          have o1 : w7.cell? ⟨OB, 1, none⟩ = some (.int .i64 a) := HO4.out.cell (j := 1) rfl
          have o2 : w7.cell? ⟨OB, 2, none⟩ = some (.int .i64 k) := HO4.out.cell (j := 2) rfl
          have o3 : w7.cell? ⟨OB, 3, none⟩ = some (.int .i64 0) := HO4.out.cell (j := 3) rfl
          have o4 : w7.cell? ⟨OB, 4, none⟩ = some (.string T) := HO4.out.cell (j := 4) rfl
          have r0 : w7.cell? ⟨w.heap.size + 1 + 1, 0, none⟩ = some (.int .i64 0) := HR4.out.cell (j := 0) rfl
          have r1 : w7.cell? ⟨w.heap.size + 1 + 1, 1, none⟩ = some (.int .i64 0) := HR4.out.cell (j := 1) rfl
          have r2 : w7.cell? ⟨w.heap.size + 1 + 1, 2, none⟩ = some (.int .i64 0) := HR4.out.cell (j := 2) rfl
          have r3 : w7.cell? ⟨w.heap.size + 1 + 1, 3, none⟩ = some (.int .i64 0) := HR4.out.cell (j := 3) rfl
          have r4 : w7.cell? ⟨w.heap.size + 1 + 1, 4, none⟩ = some (.string ⟨#[]⟩) := HR4.out.cell (j := 4) rfl
          have z0 := HR4.out.fz 0
          have z1 := HR4.out.fz 1
          have z2 := HR4.out.fz 2
          have z3 := HR4.out.fz 3
          have z4 := HR4.out.fz 4
          go_wp2
          exact ret_step rfl rfl (set5_cells HR4.out) rfl ⟨rfl, set5_below HB4.out (by omega)⟩
      · skip
        have f2 : w6.cell? ⟨w.heap.size, 3, none⟩ = some (.bool true) := HF4.out.cell (j := 3) rfl
        have s2 : w6.cell? ⟨w.heap.size + 1, 3, none⟩ = some (.int .i64 x) := HS4.out.cell (j := 3) rfl
        have o2 : w6.cell? ⟨OB, 3, none⟩ = some (.int .i64 0) := HO4.out.cell (j := 3) rfl
        have z2 := HO4.out.fz 3
        go_upto_region 8 with fail
        replace HO4 := Lib.hid (HO4.out.set 3 (.int .i64 x))
        replace HF4 := Lib.hid (HF4.out.far (a := ⟨OB, 3, none⟩) HNE.out.1 (.int .i64 x))
        replace HS4 := Lib.hid (HS4.out.far (a := ⟨OB, 3, none⟩) HNE.out.2.1 (.int .i64 x))
        replace HR4 := Lib.hid (HR4.out.far (a := ⟨OB, 3, none⟩) HNE.out.2.2.1 (.int .i64 x))
        replace HB4 := Lib.hid (HB4.out.setCell (p := ⟨OB, 3, none⟩) HNE.out.2.2.2 (.int .i64 x))
        clear f2 s2 o2 z2
        generalize w6.setCell ⟨OB, 3, none⟩ (.int .i64 x) = w7 at *
        clear w6
        replace HO4 : Hid (Cells w7 OB 34 #[.int .i64 kd, .int .i64 a, .int .i64 k, .int .i64 x, .string ⟨#[]⟩]) := HO4
        cases ft
        · skip
          have f3 : w7.cell? ⟨w.heap.size, 4, none⟩ = some (.bool false) := HF4.out.cell (j := 4) rfl
          go_upto_region 10 with fail
          clear f3
          have o0 : w7.cell? ⟨OB, 0, none⟩ = some (.int .i64 kd) := HO4.out.cell (j := 0) rfl
          have o1 : w7.cell? ⟨OB, 1, none⟩ = some (.int .i64 a) := HO4.out.cell (j := 1) rfl
          have o2 : w7.cell? ⟨OB, 2, none⟩ = some (.int .i64 k) := HO4.out.cell (j := 2) rfl
          have o3 : w7.cell? ⟨OB, 3, none⟩ = some (.int .i64 x) := HO4.out.cell (j := 3) rfl
          have o4 : w7.cell? ⟨OB, 4, none⟩ = some (.string ⟨#[]⟩) := HO4.out.cell (j := 4) rfl
          have r0 : w7.cell? ⟨w.heap.size + 1 + 1, 0, none⟩ = some (.int .i64 0) := HR4.out.cell (j := 0) rfl
          have r1 : w7.cell? ⟨w.heap.size + 1 + 1, 1, none⟩ = some (.int .i64 0) := HR4.out.cell (j := 1) rfl
          have r2 : w7.cell? ⟨w.heap.size + 1 + 1, 2, none⟩ = some (.int .i64 0) := HR4.out.cell (j := 2) rfl
          have r3 : w7.cell? ⟨w.heap.size + 1 + 1, 3, none⟩ = some (.int .i64 0) := HR4.out.cell (j := 3) rfl
          have r4 : w7.cell? ⟨w.heap.size + 1 + 1, 4, none⟩ = some (.string ⟨#[]⟩) := HR4.out.cell (j := 4) rfl
          have z0 := HR4.out.fz 0
          have z1 := HR4.out.fz 1
          have z2 := HR4.out.fz 2
          have z3 := HR4.out.fz 3
          have z4 := HR4.out.fz 4
          go_wp2
          exact ret_step rfl rfl (set5_cells HR4.out) rfl ⟨rfl, set5_below HB4.out (by omega)⟩
        · skip
          have f3 : w7.cell? ⟨w.heap.size, 4, none⟩ = some (.bool true) := HF4.out.cell (j := 4) rfl
          have s3 : w7.cell? ⟨w.heap.size + 1, 4, none⟩ = some (.string T) := HS4.out.cell (j := 4) rfl
          have o3 : w7.cell? ⟨OB, 4, none⟩ = some (.string ⟨#[]⟩) := HO4.out.cell (j := 4) rfl
          have z3 := HO4.out.fz 4
          go_upto_region 10 with fail
          replace HO4 := Lib.hid (HO4.out.set 4 (.string T))
          replace HF4 := Lib.hid (HF4.out.far (a := ⟨OB, 4, none⟩) HNE.out.1 (.string T))
          replace HS4 := Lib.hid (HS4.out.far (a := ⟨OB, 4, none⟩) HNE.out.2.1 (.string T))
          replace HR4 := Lib.hid (HR4.out.far (a := ⟨OB, 4, none⟩) HNE.out.2.2.1 (.string T))
          replace HB4 := Lib.hid (HB4.out.setCell (p := ⟨OB, 4, none⟩) HNE.out.2.2.2 (.string T))
          clear f3 s3 o3 z3
          generalize w7.setCell ⟨OB, 4, none⟩ (.string T) = w8 at *
          clear w7
          replace HO4 : Hid (Cells w8 OB 34 #[.int .i64 kd, .int .i64 a, .int .i64 k, .int .i64 x, .string T]) := HO4
          have o0 : w8.cell? ⟨OB, 0, none⟩ = some (.int .i64 kd) := HO4.out.cell (j := 0) rfl
          have o1 : w8.cell? ⟨OB, 1, none⟩ = some (.int .i64 a) := HO4.out.cell (j := 1) rfl
          have o2 : w8.cell? ⟨OB, 2, none⟩ = some (.int .i64 k) := HO4.out.cell (j := 2) rfl
          have o3 : w8.cell? ⟨OB, 3, none⟩ = some (.int .i64 x) := HO4.out.cell (j := 3) rfl
          have o4 : w8.cell? ⟨OB, 4, none⟩ = some (.string T) := HO4.out.cell (j := 4) rfl
          have r0 : w8.cell? ⟨w.heap.size + 1 + 1, 0, none⟩ = some (.int .i64 0) := HR4.out.cell (j := 0) rfl
          have r1 : w8.cell? ⟨w.heap.size + 1 + 1, 1, none⟩ = some (.int .i64 0) := HR4.out.cell (j := 1) rfl
          have r2 : w8.cell? ⟨w.heap.size + 1 + 1, 2, none⟩ = some (.int .i64 0) := HR4.out.cell (j := 2) rfl
          have r3 : w8.cell? ⟨w.heap.size + 1 + 1, 3, none⟩ = some (.int .i64 0) := HR4.out.cell (j := 3) rfl
          have r4 : w8.cell? ⟨w.heap.size + 1 + 1, 4, none⟩ = some (.string ⟨#[]⟩) := HR4.out.cell (j := 4) rfl
          have z0 := HR4.out.fz 0
          have z1 := HR4.out.fz 1
          have z2 := HR4.out.fz 2
          have z3 := HR4.out.fz 3
          have z4 := HR4.out.fz 4
          go_wp2
          exact ret_step rfl rfl (set5_cells HR4.out) rfl ⟨rfl, set5_below HB4.out (by omega)⟩
end Go.Proofs.YtdkencepmdfacaaGreatDoor
