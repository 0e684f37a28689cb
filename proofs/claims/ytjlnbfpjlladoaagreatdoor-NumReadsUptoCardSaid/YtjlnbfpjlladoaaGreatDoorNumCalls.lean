/- Calls of package num's functions, and of the library's, with given arguments: what they answer, by a run of the machine that the kernel reckons. -/
import Derived.Test.YtjlnbfpjlladoaaGreatDoorRun
import Derived.Test.YtjlnbfpjlladoaaGreatDoorNumUint
import Derived.BigQuiet
import Derived.Deep.QuietTactic
set_option maxRecDepth 100000
namespace Go.Proofs.YtjlnbfpjlladoaaGreatDoor
open Go.RowKit

/-- the cell of the table that the known calls read -/
def TA : Addr := ⟨1, 11, none⟩

/-! ### awake -/
theorem tz_any (w : World) (hT : w.cell? TA = some (.int .u8 50)) : Calls Tryz.prog 88 #[.int .u64 5629499534213120] w fun e w' => e = .returned (.int .i64 50) ∧ w' = w := by
  unfold TA at hT
  have h0 : IntKind.u64.wrap (-5629499534213120) = 18441114574175338496 := by decide
  have h1 : bits .and .u64 5629499534213120 18441114574175338496 = 1125899906842624 := by decide
  have h2 : IntKind.u64.wrap 321861246243600392178420689141760 = 3180667236830412800 := by decide
  go_enter Tryz.func88, Tryz.ntmps88
  go_wp2
  go_ret
  exact ⟨rfl, rfl⟩

theorem cut_told {s p : ByteArray} {i : Nat} (hI : ∀ w, Calls Tryz.prog 95 #[.string s, .string p] w fun e w' => e = .returned (.int .i64 i) ∧ w' = w) (h1 : i + p.size ≤ s.size) (h2 : s.size < 1000) (w : World) :
    Calls Tryz.prog 79 #[.string s, .string p] w fun e w' => e = .returned (.tuple #[.string (s.extract 0 i), .string (s.extract (i + p.size) s.size), .bool true]) ∧ ∃ n, w' = w.drewN n := by
  have c1 : (0 : Int) ≤ ↑i := by omega
  have c2 : (↑i : Int) ≤ ↑s.size := by omega
  have c3 : (0 : Int) ≤ ↑i + ↑p.size := by omega
  have c4 : (↑i + ↑p.size : Int) ≤ ↑s.size := by omega
  go_enter Tryz.func79, Tryz.ntmps79
  go_wp2_with (go_at_call 95; refine (hI _).mono ?_; rintro e w' ⟨rfl, rfl⟩)
  go_quiet (fail)
  go_wp2
  go_ret3
  exact ⟨rfl, _, rfl⟩

theorem idx_5_1 (w : World) : Calls Tryz.prog 95 #[.string { data := #[53, 112, 49] }, .string { data := #[112] }] w fun e w' => e = .returned (.int .i64 (1 : Nat)) ∧ w' = w :=
  calls_run 1000 (fn := Tryz.f95) Tryz.func95 (fun cs => by kernel_rfl)
theorem cut_5_1 (w : World) : Calls Tryz.prog 58 #[.string { data := #[53, 112, 49] }, .string { data := #[112] }] w fun e w' => e = .returned (.tuple #[.string { data := #[53] }, .string { data := #[49] }, .bool true]) ∧ ∃ n, w' = w.drewN n := by
  have k : ∀ w, Calls Tryz.prog 79 #[.string { data := #[53, 112, 49] }, .string { data := #[112] }] w fun e w' => e = .returned (.tuple #[.string { data := #[53] }, .string { data := #[49] }, .bool true]) ∧ ∃ n, w' = w.drewN n := fun w => cut_told idx_5_1 (by decide) (by decide) w
  go_enter Tryz.func58, Tryz.ntmps58
  go_wp2_with (go_at_call 79; refine (k _).mono ?_; rintro _ _ ⟨rfl, _, rfl⟩)
  go_ret3
  exact ⟨rfl, _, rfl⟩

theorem idx_2_0 (w : World) : Calls Tryz.prog 95 #[.string { data := #[50, 112, 48] }, .string { data := #[112] }] w fun e w' => e = .returned (.int .i64 (1 : Nat)) ∧ w' = w :=
  calls_run 1000 (fn := Tryz.f95) Tryz.func95 (fun cs => by kernel_rfl)
theorem cut_2_0 (w : World) : Calls Tryz.prog 58 #[.string { data := #[50, 112, 48] }, .string { data := #[112] }] w fun e w' => e = .returned (.tuple #[.string { data := #[50] }, .string { data := #[48] }, .bool true]) ∧ ∃ n, w' = w.drewN n := by
  have k : ∀ w, Calls Tryz.prog 79 #[.string { data := #[50, 112, 48] }, .string { data := #[112] }] w fun e w' => e = .returned (.tuple #[.string { data := #[50] }, .string { data := #[48] }, .bool true]) ∧ ∃ n, w' = w.drewN n := fun w => cut_told idx_2_0 (by decide) (by decide) w
  go_enter Tryz.func58, Tryz.ntmps58
  go_wp2_with (go_at_call 79; refine (k _).mono ?_; rintro _ _ ⟨rfl, _, rfl⟩)
  go_ret3
  exact ⟨rfl, _, rfl⟩

theorem idx_1_1024 (w : World) : Calls Tryz.prog 95 #[.string { data := #[49, 112, 49, 48, 50, 52] }, .string { data := #[112] }] w fun e w' => e = .returned (.int .i64 (1 : Nat)) ∧ w' = w :=
  calls_run 1000 (fn := Tryz.f95) Tryz.func95 (fun cs => by kernel_rfl)
theorem cut_1_1024 (w : World) : Calls Tryz.prog 58 #[.string { data := #[49, 112, 49, 48, 50, 52] }, .string { data := #[112] }] w fun e w' => e = .returned (.tuple #[.string { data := #[49] }, .string { data := #[49, 48, 50, 52] }, .bool true]) ∧ ∃ n, w' = w.drewN n := by
  have k : ∀ w, Calls Tryz.prog 79 #[.string { data := #[49, 112, 49, 48, 50, 52] }, .string { data := #[112] }] w fun e w' => e = .returned (.tuple #[.string { data := #[49] }, .string { data := #[49, 48, 50, 52] }, .bool true]) ∧ ∃ n, w' = w.drewN n := fun w => cut_told idx_1_1024 (by decide) (by decide) w
  go_enter Tryz.func58, Tryz.ntmps58
  go_wp2_with (go_at_call 79; refine (k _).mono ?_; rintro _ _ ⟨rfl, _, rfl⟩)
  go_ret3
  exact ⟨rfl, _, rfl⟩

theorem dig_0 (w : World) : Calls Tryz.prog 59 #[.string { data := #[48] }] w fun e w' => e = .returned (.bool true) ∧ Below w.heap.size w w' := by
  have h : digitsB { data := #[48] } = true := by decide
  have k := digits_any { data := #[48] } (by decide) w
  rw [h] at k
  exact k

theorem dig_1 (w : World) : Calls Tryz.prog 59 #[.string { data := #[49] }] w fun e w' => e = .returned (.bool true) ∧ Below w.heap.size w w' := by
  have h : digitsB { data := #[49] } = true := by decide
  have k := digits_any { data := #[49] } (by decide) w
  rw [h] at k
  exact k

theorem dig_2 (w : World) : Calls Tryz.prog 59 #[.string { data := #[50] }] w fun e w' => e = .returned (.bool true) ∧ Below w.heap.size w w' := by
  have h : digitsB { data := #[50] } = true := by decide
  have k := digits_any { data := #[50] } (by decide) w
  rw [h] at k
  exact k

theorem dig_5 (w : World) : Calls Tryz.prog 59 #[.string { data := #[53] }] w fun e w' => e = .returned (.bool true) ∧ Below w.heap.size w w' := by
  have h : digitsB { data := #[53] } = true := by decide
  have k := digits_any { data := #[53] } (by decide) w
  rw [h] at k
  exact k

theorem dig_1024 (w : World) : Calls Tryz.prog 59 #[.string { data := #[49, 48, 50, 52] }] w fun e w' => e = .returned (.bool true) ∧ Below w.heap.size w w' := by
  have h : digitsB { data := #[49, 48, 50, 52] } = true := by decide
  have k := digits_any { data := #[49, 48, 50, 52] } (by decide) w
  rw [h] at k
  exact k

theorem t_sign (w : World) : Calls Tryz.prog 86 #[.float .f64 4621819117588971520] w fun e w' => e = .returned (.bool false) ∧ w' = w :=
  calls_run 100000 (fn := Tryz.f86) Tryz.func86 (fun cs => by kernel_rfl)

theorem t_nan (w : World) : Calls Tryz.prog 51 #[.float .f64 4621819117588971520] w fun e w' => e = .returned (.bool false) ∧ w' = w :=
  calls_run 100000 (fn := Tryz.f51) Tryz.func51 (fun cs => by kernel_rfl)

theorem t_inf (w : World) : Calls Tryz.prog 52 #[.float .f64 4621819117588971520, .int .i64 0] w fun e w' => e = .returned (.bool false) ∧ w' = w :=
  calls_run 100000 (fn := Tryz.f52) Tryz.func52 (fun cs => by kernel_rfl)

theorem t_abs (w : World) : Calls Tryz.prog 50 #[.float .f64 4621819117588971520] w fun e w' => e = .returned (.float .f64 4621819117588971520) ∧ w' = w :=
  calls_run 100000 (fn := Tryz.f50) Tryz.func50 (fun cs => by kernel_rfl)

theorem t_frexp (w : World) : Calls Tryz.prog 87 #[.float .f64 4621819117588971520] w fun e w' => e = .returned (.tuple #[.float .f64 4603804719079489536, .int .i64 4]) ∧ w' = w :=
  calls_run 100000 (fn := Tryz.f87) Tryz.func87 (fun cs => by kernel_rfl)

theorem t_ldexp (w : World) : Calls Tryz.prog 63 #[.float .f64 4603804719079489536, .int .i64 53] w fun e w' => e = .returned (.float .f64 4842495499330125824) ∧ w' = w :=
  calls_run 100000 (fn := Tryz.f63) Tryz.func63 (fun cs => by kernel_rfl)

theorem t_fmt (w : World) : Calls Tryz.prog 89 #[.int .u64 5, .int .i64 10] w fun e w' => e = .returned (.string { data := #[53] }) ∧ w' = w :=
  calls_run 100000 (fn := Tryz.f89) Tryz.func89 (fun cs => by kernel_rfl)

theorem t_itoa (w : World) : Calls Tryz.prog 90 #[.int .i64 1] w fun e w' => e = .returned (.string { data := #[49] }) ∧ w' = w :=
  calls_run 100000 (fn := Tryz.f90) Tryz.func90 (fun cs => by kernel_rfl)

theorem t_text_inf (w : World) : Calls Tryz.prog 64 #[.int .u64 9218868437227405312] w fun e w' => e = .returned (.string { data := #[105, 110, 102] }) ∧ w' = w :=
  calls_run 100000 (fn := Tryz.f64) Tryz.func64 (fun cs => by kernel_rfl)

theorem p_pre_51 (w : World) : Calls Tryz.prog 57 #[.string { data := #[53, 112, 49] }, .string { data := #[45] }] w fun e w' => e = .returned (.tuple #[.string { data := #[53, 112, 49] }, .bool false]) ∧ w' = w :=
  calls_run 100000 (fn := Tryz.f57) Tryz.func57 (fun cs => by kernel_rfl)

theorem p_pre_20 (w : World) : Calls Tryz.prog 57 #[.string { data := #[50, 112, 48] }, .string { data := #[45] }] w fun e w' => e = .returned (.tuple #[.string { data := #[50, 112, 48] }, .bool false]) ∧ w' = w :=
  calls_run 100000 (fn := Tryz.f57) Tryz.func57 (fun cs => by kernel_rfl)

theorem p_pre_1024 (w : World) : Calls Tryz.prog 57 #[.string { data := #[49, 112, 49, 48, 50, 52] }, .string { data := #[45] }] w fun e w' => e = .returned (.tuple #[.string { data := #[49, 112, 49, 48, 50, 52] }, .bool false]) ∧ w' = w :=
  calls_run 100000 (fn := Tryz.f57) Tryz.func57 (fun cs => by kernel_rfl)

theorem p_e_1 (w : World) : Calls Tryz.prog 57 #[.string { data := #[49] }, .string { data := #[45] }] w fun e w' => e = .returned (.tuple #[.string { data := #[49] }, .bool false]) ∧ w' = w :=
  calls_run 100000 (fn := Tryz.f57) Tryz.func57 (fun cs => by kernel_rfl)

theorem p_e_0 (w : World) : Calls Tryz.prog 57 #[.string { data := #[48] }, .string { data := #[45] }] w fun e w' => e = .returned (.tuple #[.string { data := #[48] }, .bool false]) ∧ w' = w :=
  calls_run 100000 (fn := Tryz.f57) Tryz.func57 (fun cs => by kernel_rfl)

theorem p_e_1024 (w : World) : Calls Tryz.prog 57 #[.string { data := #[49, 48, 50, 52] }, .string { data := #[45] }] w fun e w' => e = .returned (.tuple #[.string { data := #[49, 48, 50, 52] }, .bool false]) ∧ w' = w :=
  calls_run 100000 (fn := Tryz.f57) Tryz.func57 (fun cs => by kernel_rfl)

theorem p_ix_5 (w : World) : Calls Tryz.prog 60 #[.string { data := #[49, 51, 53, 55, 57] }, .int .u8 53] w fun e w' => e = .returned (.int .i64 2) ∧ w' = w :=
  calls_run 100000 (fn := Tryz.f60) Tryz.func60 (fun cs => by kernel_rfl)

theorem p_ix_1 (w : World) : Calls Tryz.prog 60 #[.string { data := #[49, 51, 53, 55, 57] }, .int .u8 49] w fun e w' => e = .returned (.int .i64 0) ∧ w' = w :=
  calls_run 100000 (fn := Tryz.f60) Tryz.func60 (fun cs => by kernel_rfl)

theorem p_ix_2 (w : World) : Calls Tryz.prog 60 #[.string { data := #[49, 51, 53, 55, 57] }, .int .u8 50] w fun e w' => e = .returned (.int .i64 (-1)) ∧ w' = w :=
  calls_run 100000 (fn := Tryz.f60) Tryz.func60 (fun cs => by kernel_rfl)

theorem p_l_5 (w : World) : Calls Tryz.prog 63 #[.float .f64 4617315517961601024, .int .i64 1] w fun e w' => e = .returned (.float .f64 4621819117588971520) ∧ w' = w :=
  calls_run 100000 (fn := Tryz.f63) Tryz.func63 (fun cs => by kernel_rfl)

theorem p_l_1 (w : World) : Calls Tryz.prog 63 #[.float .f64 4607182418800017408, .int .i64 1024] w fun e w' => e = .returned (.float .f64 9218868437227405312) ∧ w' = w :=
  calls_run 100000 (fn := Tryz.f63) Tryz.func63 (fun cs => by kernel_rfl)

theorem p_raw_10 (w : World) : Calls Tryz.prog 40 #[.float .f64 4621819117588971520] w fun e w' => e = .returned (.int .u64 4621819117588971520) ∧ w' = w :=
  calls_run 100000 (fn := Tryz.f40) Tryz.func40 (fun cs => by kernel_rfl)

theorem p_raw_inf (w : World) : Calls Tryz.prog 40 #[.float .f64 9218868437227405312] w fun e w' => e = .returned (.int .u64 9218868437227405312) ∧ w' = w :=
  calls_run 100000 (fn := Tryz.f40) Tryz.func40 (fun cs => by kernel_rfl)

theorem k_int (w : World) : Calls Tryz.prog 32 #[.int .u64 4621819117588971520] w fun e w' => e = .returned (.tuple #[.int .i64 10, .int .i64 0]) ∧ w' = w :=
  calls_run 100000 (fn := Tryz.f32) Tryz.func32 (fun cs => by kernel_rfl)

theorem k_add (w : World) : Calls Tryz.prog 10 #[.int .u64 4607182418800017408, .int .u64 4607182418800017408] w fun e w' => e = .returned (.int .u64 4611686018427387904) ∧ w' = w :=
  calls_run 100000 (fn := Tryz.f10) Tryz.func10 (fun cs => by kernel_rfl)

theorem k_canon (w : World) : Calls Tryz.prog 18 #[.int .u64 9221120237041090566] w fun e w' => e = .returned (.int .u64 9221120237041090561) ∧ w' = w :=
  calls_run 100000 (fn := Tryz.f18) Tryz.func18 (fun cs => by kernel_rfl)

theorem n_int (w : World) : Calls Tryz.prog 32 #[.int .u64 9218868437227405312] w fun e w' => e = .returned (.tuple #[.int .i64 0, .int .i64 11]) ∧ w' = w :=
  calls_run 100000 (fn := Tryz.f32) Tryz.func32 (fun cs => by kernel_rfl)

theorem n_class (w : World) : Calls Tryz.prog 20 #[.int .u64 4607182418800017408] w fun e w' => e = .returned (.int .i64 4) ∧ w' = w :=
  calls_run 100000 (fn := Tryz.f20) Tryz.func20 (fun cs => by kernel_rfl)

theorem n_sub (w : World) : Calls Tryz.prog 12 #[.int .u64 4607182418800017408, .int .u64 4607182418800017408] w fun e w' => e = .returned (.int .u64 0) ∧ w' = w :=
  calls_run 100000 (fn := Tryz.f12) Tryz.func12 (fun cs => by kernel_rfl)

theorem n_mul (w : World) : Calls Tryz.prog 14 #[.int .u64 4607182418800017408, .int .u64 9218868437227405312] w fun e w' => e = .returned (.int .u64 9218868437227405312) ∧ w' = w :=
  calls_run 100000 (fn := Tryz.f14) Tryz.func14 (fun cs => by kernel_rfl)

theorem n_div (w : World) : Calls Tryz.prog 16 #[.int .u64 4607182418800017408, .int .u64 0] w fun e w' => e = .returned (.int .u64 9218868437227405312) ∧ w' = w :=
  calls_run 100000 (fn := Tryz.f16) Tryz.func16 (fun cs => by kernel_rfl)

theorem n_min (w : World) : Calls Tryz.prog 28 #[.int .u64 4607182418800017408, .int .u64 9218868437227405312] w fun e w' => e = .returned (.int .u64 4607182418800017408) ∧ w' = w :=
  calls_run 100000 (fn := Tryz.f28) Tryz.func28 (fun cs => by kernel_rfl)

theorem n_max (w : World) : Calls Tryz.prog 30 #[.int .u64 4607182418800017408, .int .u64 9218868437227405312] w fun e w' => e = .returned (.int .u64 9218868437227405312) ∧ w' = w :=
  calls_run 100000 (fn := Tryz.f30) Tryz.func30 (fun cs => by kernel_rfl)

theorem n_neg (w : World) : Calls Tryz.prog 22 #[.int .u64 0] w fun e w' => e = .returned (.int .u64 9223372036854775808) ∧ w' = w :=
  calls_run 100000 (fn := Tryz.f22) Tryz.func22 (fun cs => by kernel_rfl)

theorem n_abs (w : World) : Calls Tryz.prog 24 #[.int .u64 9223372036854775808] w fun e w' => e = .returned (.int .u64 0) ∧ w' = w :=
  calls_run 100000 (fn := Tryz.f24) Tryz.func24 (fun cs => by kernel_rfl)

theorem n_floor (w : World) : Calls Tryz.prog 26 #[.int .u64 4607182418800017408] w fun e w' => e = .returned (.int .u64 4607182418800017408) ∧ w' = w :=
  calls_run 100000 (fn := Tryz.f26) Tryz.func26 (fun cs => by kernel_rfl)

theorem n_less (w : World) : Calls Tryz.prog 67 #[.int .u64 0, .int .u64 4607182418800017408] w fun e w' => e = .returned (.bool true) ∧ w' = w :=
  calls_run 100000 (fn := Tryz.f67) Tryz.func67 (fun cs => by kernel_rfl)

theorem n_equal (w : World) : Calls Tryz.prog 68 #[.int .u64 0, .int .u64 9223372036854775808] w fun e w' => e = .returned (.bool true) ∧ w' = w :=
  calls_run 100000 (fn := Tryz.f68) Tryz.func68 (fun cs => by kernel_rfl)

theorem n_order (w : World) : Calls Tryz.prog 69 #[.int .u64 0, .int .u64 4607182418800017408] w fun e w' => e = .returned (.int .i64 (-1)) ∧ w' = w :=
  calls_run 100000 (fn := Tryz.f69) Tryz.func69 (fun cs => by kernel_rfl)

theorem n_of (w : World) : Calls Tryz.prog 34 #[.int .i64 1] w fun e w' => e = .returned (.int .u64 4607182418800017408) ∧ w' = w :=
  calls_run 100000 (fn := Tryz.f34) Tryz.func34 (fun cs => by kernel_rfl)

theorem p_u_5 (w : World) : Calls Tryz.prog 61 #[.string { data := #[53] }, .int .i64 10, .int .i64 53] w fun e w' => e = .returned (.tuple #[.int .u64 5, .nilIface]) ∧ Below w.heap.size w w' :=
  uint_ok { data := #[53] } (by decide) (by decide) (by decide) (u := 5) (by decide) w

theorem p_u_1 (w : World) : Calls Tryz.prog 61 #[.string { data := #[49] }, .int .i64 10, .int .i64 53] w fun e w' => e = .returned (.tuple #[.int .u64 1, .nilIface]) ∧ Below w.heap.size w w' :=
  uint_ok { data := #[49] } (by decide) (by decide) (by decide) (u := 1) (by decide) w

theorem p_a_1 (w : World) : Calls Tryz.prog 62 #[.string { data := #[49] }] w fun e w' => e = .returned (.tuple #[.int .i64 1, .nilIface]) ∧ Below w.heap.size w w' :=
  atoi_short { data := #[49] } 1 (by decide) (by decide) w

theorem p_a_1024 (w : World) : Calls Tryz.prog 62 #[.string { data := #[49, 48, 50, 52] }] w fun e w' => e = .returned (.tuple #[.int .i64 1024, .nilIface]) ∧ Below w.heap.size w w' :=
  atoi_short { data := #[49, 48, 50, 52] } 1024 (by decide) (by decide) w

end Go.Proofs.YtjlnbfpjlladoaaGreatDoor
