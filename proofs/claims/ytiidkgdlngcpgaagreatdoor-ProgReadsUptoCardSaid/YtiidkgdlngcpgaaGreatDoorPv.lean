/- What the laws of gafferlaw05 share: contracts in any later world. -/
import Derived.Test.YtiidkgdlngcpgaaGreatDoorPs
import Derived.Test.YtiidkgdlngcpgaaGreatDoorKo
import Derived.Test.YtiidkgdlngcpgaaGreatDoorNumUpto
set_option maxRecDepth 100000
namespace Go.Proofs.YtiidkgdlngcpgaaGreatDoor
open Go.RowKit Go.WideShapes Go.ChangeShapes Go.ChangeAt Ieee

theorem all_of {W : World} (h : laidMetH Tryz.prog laidOf W) : AllAt W := ⟨tabs_of h, err_of h, syn_of h⟩
theorem code_k {w : World} {B : Nat} {A : Option Addr} {l : List Ins} (h : CodeIn w B A l) : ∀ x ∈ l, x.k < 2 * signB := fun x hx => by
  obtain ⟨i, hi, he⟩ := List.getElem_of_mem hx
  obtain ⟨b, off, _, _, hc⟩ := h (by omega)
  exact (hc i x (by rw [List.getElem?_eq_getElem hi, he])).2
end Go.Proofs.YtiidkgdlngcpgaaGreatDoor
