/- The rows' second form: what a call reads is of bulk at most 1048576. The error that is laid. -/
import Derived.Test.YtdkencepmdfacaaGreatDoorNumParse2
set_option maxRecDepth 100000
namespace Go.Proofs.YtdkencepmdfacaaGreatDoor
open Go.RowKit Go.WideShapes Go.ChangeShapes Go.ChangeAt

theorem gErr : Tryz.prog.globalNamed "strconv.ErrRange" = some 7 := by kernel_rfl
theorem gErrType : (Tryz.prog.globals[7]?).map (·.type) = some 47 := by kernel_rfl
theorem errStar : "*" ++ "errors.errorString" = "*errors.errorString" := by decide
theorem errRow (u : TypeId) (h : Tryz.prog.typeName? 3 u = some "*errors.errorString") : u = 212 :=
  typeName_ptr_named (nm := "errors.errorString") (by rw [errStar]; kernel_rfl) (by kernel_rfl) (by decide) u (by rw [errStar]; exact h)
theorem err_of {W : World} (h : laidMetH Tryz.prog laidOf W) : ErrAt W := by
  have h1 : laidMet Tryz.prog laidOf W := h
  obtain ⟨a, s, hv, _, _, _⟩ := laid_sentinel (P := Tryz.prog) (tp := 212) (te := 214) (ts := 9) h1.tail.tail.tail.tail gErr gErrType Tryz.underlying47 errRow Tryz.underlying212 Tryz.underlying214 rfl rfl Tryz.underlying9 (by kernel_rfl) (by kernel_rfl)
  exact ⟨_, _, World.var?_cell gErr hv 0⟩
end Go.Proofs.YtdkencepmdfacaaGreatDoor
