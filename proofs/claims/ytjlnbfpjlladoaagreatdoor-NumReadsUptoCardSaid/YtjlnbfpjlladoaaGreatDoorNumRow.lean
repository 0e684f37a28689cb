/- The statements of package num: the calls with given arguments (awake), the variables that the rows list, and a world that holds them. -/
import Derived.Test.YtjlnbfpjlladoaaGreatDoorNumOps
import Derived.Test.YtjlnbfpjlladoaaGreatDoorNumCalls
import Derived.Test.YtjlnbfpjlladoaaGreatDoorCards
import Derived.Test.YtjlnbfpjlladoaaGreatDoorTie
import Derived.ProofKit
import Derived.OpenShut
import Derived.Deep.DeepHandedRow
import Derived.Deep.DeepWitnessRowRef
import Derived.Deep.DeepLaidRun
import Derived.Lib.LaidTab
import Derived.BigQuiet
import Derived.Deep.QuietTactic
import Derived.Stop.LaidErr
set_option maxRecDepth 100000
namespace Go.Proofs.YtjlnbfpjlladoaaGreatDoor
open Go.RowKit Go.WideShapes Go.ChangeShapes Go.ChangeAt Ieee

/-! ### the variables -/
abbrev laidOf : List (String × DataW Unit) := [("math/bits.deBruijn32tab", Rows.laid_math_bits_deBruijn32tab), ("math/bits.deBruijn64tab", Rows.laid_math_bits_deBruijn64tab), ("internal/strconv.uint64pow10", Rows.laid_internal_strconv_uint64pow10), ("strconv.ErrRange", Rows.laid_strconv_ErrRange), ("strconv.ErrSyntax", Rows.laid_strconv_ErrSyntax)]
theorem gTab : Tryz.prog.globalNamed "math/bits.deBruijn64tab" = some 1 := by kernel_rfl
theorem gTabType : (Tryz.prog.globals[1]?).map (·.type) = some 93 := by kernel_rfl
theorem cells64 : Tryz.prog.cellsOf 93 = 64 := by kernel_rfl
theorem cells8 : Tryz.prog.cellsOf 5 = 1 := by kernel_rfl
def tab64 : List Int := [0, 1, 56, 2, 57, 49, 28, 3, 61, 58, 42, 50, 38, 29, 17, 4, 62, 47, 59, 36, 45, 43, 51, 22, 53, 39, 33, 30, 24, 18, 12, 5, 63, 55, 48, 27, 60, 41, 37, 16, 46, 35, 44, 21, 52, 32, 23, 11, 54, 26, 40, 15, 34, 20, 31, 10, 25, 14, 19, 9, 13, 8, 7, 6]
theorem cell_of {W : World} (h : laidMetH Tryz.prog laidOf W) : W.cell? TA = some (.int .u8 50) := by
  have h1 : laidMet Tryz.prog laidOf W := h
  have h2 : Lib.TabIs Tryz.prog W "math/bits.deBruijn64tab" .u8 tab64 := Lib.tabIs_of_head gTab gTabType Tryz.underlying93 Tryz.underlying5 cells8 cells64 h1.tail
  exact h2.cell gTab 11 (by decide)

/-! ### a world that holds them -/
noncomputable def low : Nat := (World.holding Tryz.prog default ⟨#[], #[], []⟩).heap.size
def tab32 : List Int := [0, 1, 28, 2, 29, 14, 24, 3, 30, 22, 20, 15, 25, 17, 4, 8, 31, 27, 13, 23, 21, 19, 16, 7, 26, 12, 18, 6, 11, 5, 10, 9]
def pow10s : List Int := [1, 10, 100, 1000, 10000, 100000, 1000000, 10000000, 100000000, 1000000000, 10000000000, 100000000000, 1000000000000, 10000000000000, 100000000000000, 1000000000000000, 10000000000000000, 100000000000000000, 1000000000000000000, 10000000000000000000]
def setCells (cs : Array Value) : Obj → Obj
  | .cells _ t frozen => .cells cs t frozen
  | o => o
noncomputable def laidWorld (os : Os) : World :=
  let w0 := World.holding Tryz.prog os ⟨#[.cells #[.string { data := #[118, 97, 108, 117, 101, 32, 111, 117, 116, 32, 111, 102, 32, 114, 97, 110, 103, 101] }] 110, .cells #[.string { data := #[105, 110, 118, 97, 108, 105, 100, 32, 115, 121, 110, 116, 97, 120] }] 110], #[], []⟩
  { w0 with heap := ((((w0.heap.modify 6 (setCells (tab32.map fun z => Value.int .u8 z).toArray)).modify 1 (setCells (tab64.map fun z => Value.int .u8 z).toArray)).modify 5 (setCells (pow10s.map fun z => Value.int .u64 z).toArray)).modify 4
      (setCells #[.iface 108 (.pointer (some ⟨low, 0, none⟩))])).modify 3 (setCells #[.iface 108 (.pointer (some ⟨low + 1, 0, none⟩))]) }
theorem laid_here (os : Os) (args : Array Value) : laidMet Tryz.prog laidOf ((laidWorld os).forCall (fun _ _ => 0) ⟨#[], args, []⟩).memory :=
  laidMet_of_run3 8 (by kernel_rfl) (by kernel_rfl) (by kernel_rfl)

/-! ### awake -/
theorem text_10 (w : World) (hT : w.cell? TA = some (.int .u8 50)) : Calls Tryz.prog 64 #[.int .u64 4621819117588971520] w fun e w' => e = .returned (.string { data := #[53, 112, 49] }) ∧ w' = w := by
  have hfb := frombits_run
  have h1 : (FloatKind.f64.format.order 4621819117588971520 0 == some .eq) = false := by decide
  have hc : ∀ w, (convert 37 22 (.float .f64 4842495499330125824)).run Tryz.prog w = .ok (.int .u64 5629499534213120) w := fun w => run_convert_float_int w _ _ .f64 .u64 _ _ (by rw [Tryz.underlying37]; rfl) Tryz.underlying22 (by decide)
  go_enter Tryz.func64, Tryz.ntmps64
  go_wp2_with (first | (go_at_call 41; go_in) | (go_at_call 88; refine (tz_any _ hT).mono ?_; rintro _ _ ⟨rfl, rfl⟩) | (go_at_call 86; with_reducible (refine (t_sign _).mono ?_); rintro _ _ ⟨rfl, rfl⟩) | (go_at_call 51; with_reducible (refine (t_nan _).mono ?_); rintro _ _ ⟨rfl, rfl⟩) | (go_at_call 52; with_reducible (refine (t_inf _).mono ?_); rintro _ _ ⟨rfl, rfl⟩) | (go_at_call 50; with_reducible (refine (t_abs _).mono ?_); rintro _ _ ⟨rfl, rfl⟩) | (go_at_call 87; with_reducible (refine (t_frexp _).mono ?_); rintro _ _ ⟨rfl, rfl⟩) | (go_at_call 63; with_reducible (refine (t_ldexp _).mono ?_); rintro _ _ ⟨rfl, rfl⟩) | (go_at_call 89; with_reducible (refine (t_fmt _).mono ?_); rintro _ _ ⟨rfl, rfl⟩) | (go_at_call 90; with_reducible (refine (t_itoa _).mono ?_); rintro _ _ ⟨rfl, rfl⟩))
  go_ret
  exact ⟨rfl, rfl⟩

set_option maxRecDepth 100000 in
set_option maxHeartbeats 2000000 in
theorem parse_51 (w : World) (hT : w.cell? TA = some (.int .u8 50)) : Calls Tryz.prog 36 #[.string { data := #[53, 112, 49] }] w fun e w' => e = .returned (.tuple #[.int .u64 4621819117588971520, .int .i64 0]) ∧ Below w.heap.size w w' := by
  have hG := Lib.hid (Below.refl w.heap.size w)
  have f5 : floatOfInt .f64 5 = 4617315517961601024 := by decide
  have f1 : floatOfInt .f64 1 = 4607182418800017408 := by decide
  go_enter Tryz.func36, Tryz.ntmps36
  go_wp2_with (first | (go_at_call 58; with_reducible (refine (cut_5_1 _).mono ?_); rintro _ _ ⟨rfl, kd, rfl⟩; replace hG := Lib.hid (below_drewN hG.out kd)) | (go_at_call 59; with_reducible (refine (dig_5 _).mono ?_); rintro _ _ ⟨rfl, hb⟩; replace hG := Lib.hid (grow_trans hG.out hb); clear hb) | (go_at_call 59; with_reducible (refine (dig_1 _).mono ?_); rintro _ _ ⟨rfl, hb⟩; replace hG := Lib.hid (grow_trans hG.out hb); clear hb) | (go_at_call 57; with_reducible (refine (p_pre_51 _).mono ?_); rintro _ _ ⟨rfl, rfl⟩) | (go_at_call 57; with_reducible (refine (p_e_1 _).mono ?_); rintro _ _ ⟨rfl, rfl⟩) | (go_at_call 60; refine (p_ix_5 _).mono ?_; rintro _ _ ⟨rfl, rfl⟩) | (go_at_call 63; with_reducible (refine (p_l_5 _).mono ?_); rintro _ _ ⟨rfl, rfl⟩) | (go_at_call 40; with_reducible (refine (p_raw_10 _).mono ?_); rintro _ _ ⟨rfl, rfl⟩) | (go_at_call 61; with_reducible (refine (p_u_5 _).mono ?_); rintro _ _ ⟨rfl, hb⟩; replace hG := Lib.hid (grow_trans hG.out hb); clear hb) | (go_at_call 62; with_reducible (refine (p_a_1 _).mono ?_); rintro _ _ ⟨rfl, hb⟩; replace hG := Lib.hid (grow_trans hG.out hb); clear hb) | (go_at_call 64; refine (text_10 _ (cell_keeps hG.out hT)).mono ?_; rintro _ _ ⟨rfl, rfl⟩))
  go_ret2
  exact ⟨rfl, hG.out⟩

set_option maxRecDepth 100000 in
set_option maxHeartbeats 2000000 in
theorem parse_20 (w : World) (hT : w.cell? TA = some (.int .u8 50)) : Calls Tryz.prog 36 #[.string { data := #[50, 112, 48] }] w fun e w' => e = .returned (.tuple #[.int .u64 0, .int .i64 10]) ∧ Below w.heap.size w w' := by
  have hG := Lib.hid (Below.refl w.heap.size w)
  have f5 : floatOfInt .f64 5 = 4617315517961601024 := by decide
  have f1 : floatOfInt .f64 1 = 4607182418800017408 := by decide
  go_enter Tryz.func36, Tryz.ntmps36
  go_wp2_with (first | (go_at_call 58; with_reducible (refine (cut_2_0 _).mono ?_); rintro _ _ ⟨rfl, kd, rfl⟩; replace hG := Lib.hid (below_drewN hG.out kd)) | (go_at_call 59; with_reducible (refine (dig_2 _).mono ?_); rintro _ _ ⟨rfl, hb⟩; replace hG := Lib.hid (grow_trans hG.out hb); clear hb) | (go_at_call 59; with_reducible (refine (dig_0 _).mono ?_); rintro _ _ ⟨rfl, hb⟩; replace hG := Lib.hid (grow_trans hG.out hb); clear hb) | (go_at_call 57; with_reducible (refine (p_pre_20 _).mono ?_); rintro _ _ ⟨rfl, rfl⟩) | (go_at_call 57; with_reducible (refine (p_e_0 _).mono ?_); rintro _ _ ⟨rfl, rfl⟩) | (go_at_call 60; refine (p_ix_2 _).mono ?_; rintro _ _ ⟨rfl, rfl⟩))
  go_ret2
  exact ⟨rfl, hG.out⟩

set_option maxRecDepth 100000 in
set_option maxHeartbeats 2000000 in
theorem parse_1024 (w : World) (hT : w.cell? TA = some (.int .u8 50)) : Calls Tryz.prog 36 #[.string { data := #[49, 112, 49, 48, 50, 52] }] w fun e w' => e = .returned (.tuple #[.int .u64 0, .int .i64 11]) ∧ Below w.heap.size w w' := by
  have hG := Lib.hid (Below.refl w.heap.size w)
  have f5 : floatOfInt .f64 5 = 4617315517961601024 := by decide
  have f1 : floatOfInt .f64 1 = 4607182418800017408 := by decide
  go_enter Tryz.func36, Tryz.ntmps36
  go_wp2_with (first | (go_at_call 58; with_reducible (refine (cut_1_1024 _).mono ?_); rintro _ _ ⟨rfl, kd, rfl⟩; replace hG := Lib.hid (below_drewN hG.out kd)) | (go_at_call 59; with_reducible (refine (dig_1 _).mono ?_); rintro _ _ ⟨rfl, hb⟩; replace hG := Lib.hid (grow_trans hG.out hb); clear hb) | (go_at_call 59; with_reducible (refine (dig_1024 _).mono ?_); rintro _ _ ⟨rfl, hb⟩; replace hG := Lib.hid (grow_trans hG.out hb); clear hb) | (go_at_call 57; with_reducible (refine (p_pre_1024 _).mono ?_); rintro _ _ ⟨rfl, rfl⟩) | (go_at_call 57; with_reducible (refine (p_e_1024 _).mono ?_); rintro _ _ ⟨rfl, rfl⟩) | (go_at_call 60; refine (p_ix_1 _).mono ?_; rintro _ _ ⟨rfl, rfl⟩) | (go_at_call 63; with_reducible (refine (p_l_1 _).mono ?_); rintro _ _ ⟨rfl, rfl⟩) | (go_at_call 40; with_reducible (refine (p_raw_inf _).mono ?_); rintro _ _ ⟨rfl, rfl⟩) | (go_at_call 64; with_reducible (refine (t_text_inf _).mono ?_); rintro _ _ ⟨rfl, rfl⟩) | (go_at_call 61; with_reducible (refine (p_u_1 _).mono ?_); rintro _ _ ⟨rfl, hb⟩; replace hG := Lib.hid (grow_trans hG.out hb); clear hb) | (go_at_call 62; with_reducible (refine (p_a_1024 _).mono ?_); rintro _ _ ⟨rfl, hb⟩; replace hG := Lib.hid (grow_trans hG.out hb); clear hb))
  go_ret2
  exact ⟨rfl, hG.out⟩

set_option maxRecDepth 100000 in
set_option maxHeartbeats 2000000 in
theorem known_any (w : World) (hT : w.cell? TA = some (.int .u8 50)) : Calls Tryz.prog 38 #[] w fun e w' => e = .returned (.bool true) ∧ Below w.heap.size w w' := by
  have hG := Lib.hid (Below.refl w.heap.size w)
  go_enter Tryz.func38, Tryz.ntmps38
  go_wp2_with (first | (go_at_call 36; with_reducible (refine (parse_51 _ (cell_keeps hG.out hT)).mono ?_); rintro _ _ ⟨rfl, hb⟩; replace hG := Lib.hid (grow_trans hG.out hb); clear hb) | (go_at_call 64; refine (text_10 _ (cell_keeps hG.out hT)).mono ?_; rintro _ _ ⟨rfl, rfl⟩) | (go_at_call 32; with_reducible (refine (k_int _).mono ?_); rintro _ _ ⟨rfl, rfl⟩) | (go_at_call 10; with_reducible (refine (k_add _).mono ?_); rintro _ _ ⟨rfl, rfl⟩) | (go_at_call 18; with_reducible (refine (k_canon _).mono ?_); rintro _ _ ⟨rfl, rfl⟩))
  go_ret
  exact ⟨rfl, hG.out⟩

set_option maxRecDepth 100000 in
set_option maxHeartbeats 2000000 in
theorem names_any (w : World) (hT : w.cell? TA = some (.int .u8 50)) : Calls Tryz.prog 39 #[] w fun e w' => e = .returned (.bool true) ∧ Below w.heap.size w w' := by
  have hG := Lib.hid (Below.refl w.heap.size w)
  go_enter Tryz.func39, Tryz.ntmps39
  go_wp2_with (first | (go_at_call 36; with_reducible (refine (parse_20 _ (cell_keeps hG.out hT)).mono ?_); rintro _ _ ⟨rfl, hb⟩; replace hG := Lib.hid (grow_trans hG.out hb); clear hb) | (go_at_call 36; with_reducible (refine (parse_1024 _ (cell_keeps hG.out hT)).mono ?_); rintro _ _ ⟨rfl, hb⟩; replace hG := Lib.hid (grow_trans hG.out hb); clear hb) | (go_at_call 38; refine (known_any _ (cell_keeps hG.out hT)).mono ?_; rintro _ _ ⟨rfl, hb⟩; replace hG := Lib.hid (grow_trans hG.out hb); clear hb) | (go_at_call 32; with_reducible (refine (n_int _).mono ?_); rintro _ _ ⟨rfl, rfl⟩) | (go_at_call 20; with_reducible (refine (n_class _).mono ?_); rintro _ _ ⟨rfl, rfl⟩) | (go_at_call 12; with_reducible (refine (n_sub _).mono ?_); rintro _ _ ⟨rfl, rfl⟩) | (go_at_call 14; with_reducible (refine (n_mul _).mono ?_); rintro _ _ ⟨rfl, rfl⟩) | (go_at_call 16; with_reducible (refine (n_div _).mono ?_); rintro _ _ ⟨rfl, rfl⟩) | (go_at_call 28; with_reducible (refine (n_min _).mono ?_); rintro _ _ ⟨rfl, rfl⟩) | (go_at_call 30; with_reducible (refine (n_max _).mono ?_); rintro _ _ ⟨rfl, rfl⟩) | (go_at_call 22; with_reducible (refine (n_neg _).mono ?_); rintro _ _ ⟨rfl, rfl⟩) | (go_at_call 24; with_reducible (refine (n_abs _).mono ?_); rintro _ _ ⟨rfl, rfl⟩) | (go_at_call 26; with_reducible (refine (n_floor _).mono ?_); rintro _ _ ⟨rfl, rfl⟩) | (go_at_call 67; with_reducible (refine (n_less _).mono ?_); rintro _ _ ⟨rfl, rfl⟩) | (go_at_call 68; with_reducible (refine (n_equal _).mono ?_); rintro _ _ ⟨rfl, rfl⟩) | (go_at_call 69; with_reducible (refine (n_order _).mono ?_); rintro _ _ ⟨rfl, rfl⟩) | (go_at_call 34; with_reducible (refine (n_of _).mono ?_); rintro _ _ ⟨rfl, rfl⟩))
  go_ret
  exact ⟨rfl, hG.out⟩

set_option maxRecDepth 100000 in
set_option maxHeartbeats 2000000 in
theorem awake_any (w : World) (hT : w.cell? TA = some (.int .u8 50)) : Calls Tryz.prog 9 #[] w fun e w' => e = .returned (.bool true) ∧ Below w.heap.size w w' := by
  have hG := Lib.hid (Below.refl w.heap.size w)
  go_enter Tryz.func9, Tryz.ntmps9
  go_wp2_with (first | (go_at_call 38; refine (known_any _ (cell_keeps hG.out hT)).mono ?_; rintro _ _ ⟨rfl, hb⟩; replace hG := Lib.hid (grow_trans hG.out hb); clear hb) | (go_at_call 39; refine (names_any _ (cell_keeps hG.out hT)).mono ?_; rintro _ _ ⟨rfl, hb⟩; replace hG := Lib.hid (grow_trans hG.out hb); clear hb))
  go_ret
  exact ⟨rfl, hG.out⟩

/-! ### small facts of the laws -/
theorem wrap_small (n m : Int) (hn : -33554432 ≤ n ∧ n ≤ 33554432) (hm : -33554432 ≤ m ∧ m ≤ 33554432) : IntKind.i64.wrap (n * m) = n * m := by
  have h : (n * m).natAbs ≤ 1125899906842624 := by
    rw [Int.natAbs_mul]
    calc n.natAbs * m.natAbs ≤ 33554432 * 33554432 := Nat.mul_le_mul (by omega) (by omega)
      _ = 1125899906842624 := by decide
  rw [IntKind.wrap_i64]
  omega
theorem shr_one {c : Nat} (hc : c < 2 * signB) (h : signB ≤ c) : ((c : Nat) : Int) / 9223372036854775808 = 1 := by
  unfold signB at *
  omega
theorem shr_none {c : Nat} (h : ¬ signB ≤ c) : ((c : Nat) : Int) / 9223372036854775808 = 0 := by
  unfold signB at *
  omega
end Go.Proofs.YtjlnbfpjlladoaaGreatDoor
