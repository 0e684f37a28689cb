/- The rows' second form: what a call reads is of bulk at most 1048576. The error that is laid. -/
import Derived.Test.YtiidkgdlngcpgaaGreatDoorNumParse2
set_option maxRecDepth 100000
namespace Go.Proofs.YtiidkgdlngcpgaaGreatDoor
open Go.RowKit Go.WideShapes Go.ChangeShapes Go.ChangeAt

theorem bulk_mem {H : Type} {ds : List (DataW H)} (hk : Rows.uptoSmall H ds = true) : ∀ d ∈ ds, Rows.uptoBulk d ≤ 1048576 := by
  have h : Rows.uptoBulkAll ds ≤ 1048576 := of_decide_eq_true hk
  have key : ∀ (l : List (DataW H)) (d : DataW H), d ∈ l → Rows.uptoBulk d ≤ Rows.uptoBulkAll l := by
    intro l
    induction l with
    | nil => intro d hd; cases hd
    | cons x xs ih =>
      intro d hd
      rw [Rows.uptoBulkAll]
      rcases List.mem_cons.1 hd with rfl | hd
      · omega
      · have := ih d hd
        omega
  intro d hd
  have := key ds d hd
  omega

theorem bulk_string {H : Type} {s : ByteArray} (h : Rows.uptoBulk (DataW.lit (H := H) (.string s.data.toList)) ≤ 1048576) : s.size < 1048576 := by
  rw [Rows.uptoBulk] at h
  have e : s.data.toList.length = s.size := by rw [Array.length_toList]; rfl
  omega

theorem gErr : Tryz.prog.globalNamed "strconv.ErrRange" = some 5 := by kernel_rfl
theorem gErrType : (Tryz.prog.globals[5]?).map (·.type) = some 50 := by kernel_rfl
theorem errStar : "*" ++ "errors.errorString" = "*errors.errorString" := by decide
theorem errRow (u : TypeId) (h : Tryz.prog.typeName? 3 u = some "*errors.errorString") : u = 175 :=
  typeName_ptr_named (nm := "errors.errorString") (by rw [errStar]; kernel_rfl) (by kernel_rfl) (by decide) u (by rw [errStar]; exact h)
theorem err_of {W : World} (h : laidMetH Tryz.prog laidOf W) : ErrAt W := by
  have h1 : laidMet Tryz.prog laidOf W := h
  obtain ⟨a, s, hv, _, _, _⟩ := laid_sentinel (P := Tryz.prog) (tp := 175) (te := 177) (ts := 9) h1.tail.tail.tail.tail gErr gErrType Tryz.underlying50 errRow Tryz.underlying175 Tryz.underlying177 rfl rfl Tryz.underlying9 (by kernel_rfl) (by kernel_rfl)
  exact ⟨_, _, World.var?_cell gErr hv 0⟩
end Go.Proofs.YtiidkgdlngcpgaaGreatDoor
