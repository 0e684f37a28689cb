/- The tables that the rows lay: what a world that holds them is. -/
import Derived.Test.YtiidkgdlngcpgaaGreatDoorNumText2
set_option maxRecDepth 100000
namespace Go.Proofs.YtiidkgdlngcpgaaGreatDoor
open Go.RowKit Go.WideShapes Go.ChangeShapes Go.ChangeAt

/-- a contract that draws, as one that grows -/
theorem told_grew {f : FuncId} {args : Array Value} {v : Value} (h : Told f args v) (w : World) : Calls Tryz.prog f args w fun e w' => e = .returned v ∧ Below w.heap.size w w' := (h w).mono fun _ _ ⟨he, n, hw⟩ => ⟨he, by rw [hw]; exact grow_drewN _ _⟩
theorem gPow : Tryz.prog.globalNamed "internal/strconv.uint64pow10" = some 2 := by kernel_rfl
theorem gPowType : (Tryz.prog.globals[2]?).map (·.type) = some 159 := by kernel_rfl
theorem cells20 : Tryz.prog.cellsOf 159 = 20 := by kernel_rfl
theorem cells64u : Tryz.prog.cellsOf 41 = 1 := by kernel_rfl
theorem tabs_of {W : World} (h : laidMetH Tryz.prog laidOf W) : TabsAt W := by
  have h1 : laidMet Tryz.prog laidOf W := h
  have h2 : Lib.TabIs Tryz.prog W "math/bits.deBruijn64tab" .u8 tab64 := Lib.tabIs_of_head gTab gTabType Tryz.underlying122 Tryz.underlying5 cells8 cells64 h1.tail
  have h3 : Lib.TabIs Tryz.prog W "internal/strconv.uint64pow10" .u64 Lib.pow10Tab := Lib.tabIs_of_head gPow gPowType Tryz.underlying159 Tryz.underlying41 cells64u cells20 h1.tail.tail
  exact ⟨h2, h3⟩
end Go.Proofs.YtiidkgdlngcpgaaGreatDoor
