/- The variables that the rows list, and a world that holds them. -/
import Derived.Test.YtiidkgdlngcpgaaGreatDoorNumOps
import Derived.Stop.LaidErr
import Derived.Test.YtiidkgdlngcpgaaGreatDoorShelf
import Derived.Test.YtiidkgdlngcpgaaGreatDoorRun
import Derived.Laws.RangeAny
import Derived.Lib.OthersKept
import Derived.Deep.LoopGhost
import Derived.Lib.Strings
import Derived.Lib.Walk
import Derived.Lib.ConvBytes
import Derived.Lib.ParseIntBMem
import Derived.Laws.Strings3
import Derived.Laws.Closers25
import Derived.Laws.Closers25b
import Derived.BigCall
import Derived.BigGuard
import Derived.Test.YtiidkgdlngcpgaaGreatDoorCards
import Derived.Test.YtiidkgdlngcpgaaGreatDoorTie
import Derived.ProofKit
import Derived.OpenShut
import Derived.Deep.DeepHandedRow
import Derived.Deep.DeepWitnessRowRef
import Derived.Deep.DeepLaidRun
import Derived.Lib.LaidTab
import Derived.BigQuiet
import Derived.Deep.QuietTactic
set_option maxRecDepth 100000
namespace Go.Proofs.YtiidkgdlngcpgaaGreatDoor
open Go.RowKit Go.WideShapes Go.ChangeShapes Go.ChangeAt Ieee

/-! ### the variables -/
abbrev laidOf : List (String × DataW Unit) := [("math/bits.deBruijn32tab", Rows.laid_math_bits_deBruijn32tab), ("math/bits.deBruijn64tab", Rows.laid_math_bits_deBruijn64tab), ("internal/strconv.uint64pow10", Rows.laid_internal_strconv_uint64pow10), ("unicode/utf8.acceptRanges", Rows.laid_unicode_utf8_acceptRanges), ("strconv.ErrRange", Rows.laid_strconv_ErrRange), ("strconv.ErrSyntax", Rows.laid_strconv_ErrSyntax), ("unicode/utf8.first", Rows.laid_unicode_utf8_first)]
theorem gTab : Tryz.prog.globalNamed "math/bits.deBruijn64tab" = some 1 := by kernel_rfl
theorem gTabType : (Tryz.prog.globals[1]?).map (·.type) = some 122 := by kernel_rfl
theorem cells64 : Tryz.prog.cellsOf 122 = 64 := by kernel_rfl
theorem cells8 : Tryz.prog.cellsOf 5 = 1 := by kernel_rfl
def tab64 : List Int := [0, 1, 56, 2, 57, 49, 28, 3, 61, 58, 42, 50, 38, 29, 17, 4, 62, 47, 59, 36, 45, 43, 51, 22, 53, 39, 33, 30, 24, 18, 12, 5, 63, 55, 48, 27, 60, 41, 37, 16, 46, 35, 44, 21, 52, 32, 23, 11, 54, 26, 40, 15, 34, 20, 31, 10, 25, 14, 19, 9, 13, 8, 7, 6]
/-! ### a world that holds them -/
def tab32 : List Int := [0, 1, 28, 2, 29, 14, 24, 3, 30, 22, 20, 15, 25, 17, 4, 8, 31, 27, 13, 23, 21, 19, 16, 7, 26, 12, 18, 6, 11, 5, 10, 9]
def pow10s : List Int := [1, 10, 100, 1000, 10000, 100000, 1000000, 10000000, 100000000, 1000000000, 10000000000, 100000000000, 1000000000000, 10000000000000, 100000000000000, 1000000000000000, 10000000000000000, 100000000000000000, 1000000000000000000, 10000000000000000000]
def setCells (cs : Array Value) : Obj → Obj
  | .cells _ t frozen => .cells cs t frozen
  | o => o
def ranges : List Int := [128, 191, 160, 191, 128, 159, 144, 191, 128, 143, 0, 0, 0, 0, 0, 0, 0, 0, 0, 0, 0, 0, 0, 0, 0, 0, 0, 0, 0, 0, 0, 0]
noncomputable def low : Nat := (World.holding Tryz.prog default ⟨#[], #[], []⟩).heap.size
noncomputable def laidWorld (os : Os) : World :=
  let w0 := World.holding Tryz.prog os ⟨#[.cells #[.string { data := #[118, 97, 108, 117, 101, 32, 111, 117, 116, 32, 111, 102, 32, 114, 97, 110, 103, 101] }] 177, .cells #[.string { data := #[105, 110, 118, 97, 108, 105, 100, 32, 115, 121, 110, 116, 97, 120] }] 177], #[], []⟩
  { w0 with heap := ((((((w0.heap.modify 6 (setCells (tab32.map fun z => Value.int .u8 z).toArray)).modify 1 (setCells (tab64.map fun z => Value.int .u8 z).toArray)).modify 2 (setCells (pow10s.map fun z => Value.int .u64 z).toArray)).modify 5
      (setCells #[.iface 175 (.pointer (some ⟨low, 0, none⟩))])).modify 4 (setCells #[.iface 175 (.pointer (some ⟨low + 1, 0, none⟩))])).modify 8 (setCells (ranges.map fun z => Value.int .u8 z).toArray)).modify 7 (setCells (Go.Pinned.utf8FirstZ.map fun (z : Nat) => Value.int .u8 (z : Int)).toArray) }
set_option maxRecDepth 100000 in
theorem laid_here (os : Os) (args : Array Value) : laidMet Tryz.prog laidOf ((laidWorld os).forCall (fun _ _ => 0) ⟨#[], args, []⟩).memory :=
  laidMet_of_run3 8 (by kernel_rfl) (by kernel_rfl) (by kernel_rfl)

/-! ### small facts of the laws -/
theorem wrap_small (n m : Int) (hn : -33554432 ≤ n ∧ n ≤ 33554432) (hm : -33554432 ≤ m ∧ m ≤ 33554432) : IntKind.i64.wrap (n * m) = n * m := by
  have h : (n * m).natAbs ≤ 1125899906842624 := by
    rw [Int.natAbs_mul]
    calc n.natAbs * m.natAbs ≤ 33554432 * 33554432 := Nat.mul_le_mul (by omega) (by omega)
      _ = 1125899906842624 := by decide
  rw [IntKind.wrap_i64]
  omega
theorem shr_one {c : Nat} (hc : c < 2 * signB) (h : signB ≤ c) : ((c : Nat) : Int) / 9223372036854775808 = 1 := by
  unfold signB at *
  omega
theorem shr_none {c : Nat} (h : ¬ signB ≤ c) : ((c : Nat) : Int) / 9223372036854775808 = 0 := by
  unfold signB at *
  omega
end Go.Proofs.YtiidkgdlngcpgaaGreatDoor
