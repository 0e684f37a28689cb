/- interp.reckon: what the ops of two and three registers reckon (contract). -/
import Derived.Test.YtjloiclbknfomaaGreatDoorKm
import Derived.Deep.DeepCutAuto
set_option maxRecDepth 100000
namespace Go.Proofs.YtjloiclbknfomaaGreatDoor
open Go.RowKit Ieee

theorem idx14_2 (f0 f1 f2 f3 f4 f5 f6 f7 f8 f9 f10 f11 f12 f13 : Value) (w : World) : (Instr.index 120 (.agg #[f0, f1, f2, f3, f4, f5, f6, f7, f8, f9, f10, f11, f12, f13]) (.int .i64 2)).run Tryz.prog w = .ok f2 w := by kernel_rfl
theorem idx14_3 (f0 f1 f2 f3 f4 f5 f6 f7 f8 f9 f10 f11 f12 f13 : Value) (w : World) : (Instr.index 120 (.agg #[f0, f1, f2, f3, f4, f5, f6, f7, f8, f9, f10, f11, f12, f13]) (.int .i64 3)).run Tryz.prog w = .ok f3 w := by kernel_rfl
theorem idx14_4 (f0 f1 f2 f3 f4 f5 f6 f7 f8 f9 f10 f11 f12 f13 : Value) (w : World) : (Instr.index 120 (.agg #[f0, f1, f2, f3, f4, f5, f6, f7, f8, f9, f10, f11, f12, f13]) (.int .i64 4)).run Tryz.prog w = .ok f4 w := by kernel_rfl
theorem idx14_5 (f0 f1 f2 f3 f4 f5 f6 f7 f8 f9 f10 f11 f12 f13 : Value) (w : World) : (Instr.index 120 (.agg #[f0, f1, f2, f3, f4, f5, f6, f7, f8, f9, f10, f11, f12, f13]) (.int .i64 5)).run Tryz.prog w = .ok f5 w := by kernel_rfl
theorem idx14_6 (f0 f1 f2 f3 f4 f5 f6 f7 f8 f9 f10 f11 f12 f13 : Value) (w : World) : (Instr.index 120 (.agg #[f0, f1, f2, f3, f4, f5, f6, f7, f8, f9, f10, f11, f12, f13]) (.int .i64 6)).run Tryz.prog w = .ok f6 w := by kernel_rfl
theorem idx14_7 (f0 f1 f2 f3 f4 f5 f6 f7 f8 f9 f10 f11 f12 f13 : Value) (w : World) : (Instr.index 120 (.agg #[f0, f1, f2, f3, f4, f5, f6, f7, f8, f9, f10, f11, f12, f13]) (.int .i64 7)).run Tryz.prog w = .ok f7 w := by kernel_rfl
theorem idx14_8 (f0 f1 f2 f3 f4 f5 f6 f7 f8 f9 f10 f11 f12 f13 : Value) (w : World) : (Instr.index 120 (.agg #[f0, f1, f2, f3, f4, f5, f6, f7, f8, f9, f10, f11, f12, f13]) (.int .i64 8)).run Tryz.prog w = .ok f8 w := by kernel_rfl
theorem idx14_9 (f0 f1 f2 f3 f4 f5 f6 f7 f8 f9 f10 f11 f12 f13 : Value) (w : World) : (Instr.index 120 (.agg #[f0, f1, f2, f3, f4, f5, f6, f7, f8, f9, f10, f11, f12, f13]) (.int .i64 9)).run Tryz.prog w = .ok f9 w := by kernel_rfl
theorem idx14_10 (f0 f1 f2 f3 f4 f5 f6 f7 f8 f9 f10 f11 f12 f13 : Value) (w : World) : (Instr.index 120 (.agg #[f0, f1, f2, f3, f4, f5, f6, f7, f8, f9, f10, f11, f12, f13]) (.int .i64 10)).run Tryz.prog w = .ok f10 w := by kernel_rfl
theorem idx14_11 (f0 f1 f2 f3 f4 f5 f6 f7 f8 f9 f10 f11 f12 f13 : Value) (w : World) : (Instr.index 120 (.agg #[f0, f1, f2, f3, f4, f5, f6, f7, f8, f9, f10, f11, f12, f13]) (.int .i64 11)).run Tryz.prog w = .ok f11 w := by kernel_rfl
theorem idx14_12 (f0 f1 f2 f3 f4 f5 f6 f7 f8 f9 f10 f11 f12 f13 : Value) (w : World) : (Instr.index 120 (.agg #[f0, f1, f2, f3, f4, f5, f6, f7, f8, f9, f10, f11, f12, f13]) (.int .i64 12)).run Tryz.prog w = .ok f12 w := by kernel_rfl
theorem idx14_13 (f0 f1 f2 f3 f4 f5 f6 f7 f8 f9 f10 f11 f12 f13 : Value) (w : World) : (Instr.index 120 (.agg #[f0, f1, f2, f3, f4, f5, f6, f7, f8, f9, f10, f11, f12, f13]) (.int .i64 13)).run Tryz.prog w = .ok f13 w := by kernel_rfl

theorem four_at0 (w : World) (f : Value) (t : TypeId) (b c d : Obj) : ((((w.alloc (.cells #[f] t)).alloc b).alloc c).alloc d).cell? ⟨w.heap.size, 0, none⟩ = some f := ((((Cells.new w t #[f]).alloc b).alloc c).alloc d).cell (j := 0) rfl
theorem four_at1 (w : World) (f : Value) (t : TypeId) (a c d : Obj) : ((((w.alloc a).alloc (.cells #[f] t)).alloc c).alloc d).cell? ⟨w.heap.size + 1, 0, none⟩ = some f := (((Cells.newAt (w.alloc a) t #[f] (w.heap.size + 1) (by simp)).alloc c).alloc d).cell (j := 0) rfl
theorem four_at2 (w : World) (f : Value) (t : TypeId) (a b d : Obj) : ((((w.alloc a).alloc b).alloc (.cells #[f] t)).alloc d).cell? ⟨w.heap.size + 1 + 1, 0, none⟩ = some f := ((Cells.newAt ((w.alloc a).alloc b) t #[f] (w.heap.size + 1 + 1) (by simp)).alloc d).cell (j := 0) rfl
theorem four_at3 (w : World) (f : Value) (t : TypeId) (a b c : Obj) : ((((w.alloc a).alloc b).alloc c).alloc (.cells #[f] t)).cell? ⟨w.heap.size + 1 + 1 + 1, 0, none⟩ = some f := (Cells.newAt (((w.alloc a).alloc b).alloc c) t #[f] (w.heap.size + 1 + 1 + 1) (by simp)).cell (j := 0) rfl
theorem four_grow (w : World) (a b c d : Obj) : Below w.heap.size w ((((w.alloc a).alloc b).alloc c).alloc d) :=
  ((((Below.refl _ w).alloc (Nat.le_refl _) a).alloc (by simp) b).alloc (by simp; omega) c).alloc (by simp; omega) d

theorem one_any (f : FuncId) (w : World) : Calls Tryz.prog 75 #[.func (.func f) #[] #[]] w fun e w' => e = .returned (.func (.func 76) #[] #[.pointer (some ⟨w.heap.size, 0, none⟩)]) ∧ w' = w.alloc (.cells #[.func (.func f) #[] #[]] 93) := by
  have hmf : ∀ (fn : Fn) (first cap : Array Value) (w : World), (Instr.makeFunc fn first cap).run Tryz.prog w = .ok (.func fn first cap) w := fun _ _ _ _ => rfl
  go_enter Tryz.func75, Tryz.ntmps75
  go_wp2
  go_ret
  exact ⟨rfl, rfl⟩

theorem clos_canon {b : Nat} (hb : b < 2 * signB) (c : Nat) (k : Nat) (w : World) (hk : w.cell? ⟨k, 0, none⟩ = some (.func (.func 63) #[] #[])) : Calls Tryz.prog 76 #[.int .u64 (b : Nat), .int .u64 (c : Nat), .pointer (some ⟨k, 0, none⟩)] w fun e w' => e = .returned (.int .u64 (fcan b : Nat)) ∧ ∃ n, w' = w.drewN n := by
  have kf := fun w => kcan_any hb w
  generalize fcan b = v at *
  clear hb
  go_enter Tryz.func76, Tryz.ntmps76
  go_wp2_with (go_at_call 63; with_reducible (refine (kf _).mono ?_); rintro _ _ ⟨rfl, rfl⟩)
  go_ret
  exact ⟨rfl, 0, rfl⟩

theorem clos_neg {b : Nat} (hb : b < 2 * signB) (c : Nat) (k : Nat) (w : World) (hk : w.cell? ⟨k, 0, none⟩ = some (.func (.func 88) #[] #[])) : Calls Tryz.prog 76 #[.int .u64 (b : Nat), .int .u64 (c : Nat), .pointer (some ⟨k, 0, none⟩)] w fun e w' => e = .returned (.int .u64 (fneg b : Nat)) ∧ ∃ n, w' = w.drewN n := by
  have kf := fun w => neg_any hb w
  generalize fneg b = v at *
  clear hb
  go_enter Tryz.func76, Tryz.ntmps76
  go_wp2_with (go_at_call 88; with_reducible (refine (kf _).mono ?_); rintro _ _ ⟨rfl, kd, rfl⟩)
  go_ret
  exact ⟨rfl, _, rfl⟩

theorem clos_abs {b : Nat} (hb : b < 2 * signB) (c : Nat) (k : Nat) (w : World) (hk : w.cell? ⟨k, 0, none⟩ = some (.func (.func 89) #[] #[])) : Calls Tryz.prog 76 #[.int .u64 (b : Nat), .int .u64 (c : Nat), .pointer (some ⟨k, 0, none⟩)] w fun e w' => e = .returned (.int .u64 (fabs b : Nat)) ∧ ∃ n, w' = w.drewN n := by
  have kf := fun w => abs_any hb w
  generalize fabs b = v at *
  clear hb
  go_enter Tryz.func76, Tryz.ntmps76
  go_wp2_with (go_at_call 89; with_reducible (refine (kf _).mono ?_); rintro _ _ ⟨rfl, kd, rfl⟩)
  go_ret
  exact ⟨rfl, _, rfl⟩

theorem clos_floor {b : Nat} (hb : b < 2 * signB) (c : Nat) (k : Nat) (w : World) (hk : w.cell? ⟨k, 0, none⟩ = some (.func (.func 90) #[] #[])) : Calls Tryz.prog 76 #[.int .u64 (b : Nat), .int .u64 (c : Nat), .pointer (some ⟨k, 0, none⟩)] w fun e w' => e = .returned (.int .u64 (ffloor b : Nat)) ∧ ∃ n, w' = w.drewN n := by
  have kf := fun w => floor_any hb w
  generalize ffloor b = v at *
  clear hb
  go_enter Tryz.func76, Tryz.ntmps76
  go_wp2_with (go_at_call 90; with_reducible (refine (kf _).mono ?_); rintro _ _ ⟨rfl, kd, rfl⟩)
  go_ret
  exact ⟨rfl, _, rfl⟩

theorem clos_less {b c : Nat} (hb : b < 2 * signB) (hc : c < 2 * signB) (w : World) : Calls Tryz.prog 83 #[.int .u64 (b : Nat), .int .u64 (c : Nat)] w fun e w' => e = .returned (.int .u64 ((if fless b c = true then fof 1 else 0 : Nat) : Int)) ∧ ∃ n, w' = w.drewN n := by
  have kf := fun w => less_any hb hc w
  have ko := fun w => of_any (n := 1) (by decide) (by decide) w
  generalize fof 1 = f1 at *
  clear hb hc
  cases hl : fless b c
  · rw [hl] at kf
    clear hl
    go_enter Tryz.func83, Tryz.ntmps83
    go_wp2_with (first | (go_at_call 84; with_reducible (refine (kf _).mono ?_); rintro _ _ ⟨rfl, kd, rfl⟩) | (go_at_call 85; with_reducible (refine (ko _).mono ?_); rintro _ _ ⟨rfl, ke, rfl⟩))
    go_ret
    exact ⟨rfl, _, rfl⟩
  · rw [hl] at kf
    clear hl
    go_enter Tryz.func83, Tryz.ntmps83
    go_wp2_with (first | (go_at_call 84; with_reducible (refine (kf _).mono ?_); rintro _ _ ⟨rfl, kd, rfl⟩) | (go_at_call 85; with_reducible (refine (ko _).mono ?_); rintro _ _ ⟨rfl, ke, rfl⟩))
    go_ret
    exact ⟨rfl, _, by first | rfl | (rw [World.drewN_drewN])⟩
theorem clos_order {b c : Nat} (hb : b < 2 * signB) (hc : c < 2 * signB) (w : World) : Calls Tryz.prog 86 #[.int .u64 (b : Nat), .int .u64 (c : Nat)] w fun e w' => e = .returned (.int .u64 (fof (forder b c) : Nat)) ∧ ∃ n, w' = w.drewN n := by
  have kf := fun w => order_any hb hc w
  have hr : -1 ≤ forder b c ∧ forder b c ≤ 1 := by unfold forder; split; decide; split <;> decide
  have ko := fun w => of_any (n := forder b c) (by omega) (by omega) w
  clear hb hc hr
  generalize fof (forder b c) = f1 at *
  generalize forder b c = oc at *
  go_enter Tryz.func86, Tryz.ntmps86
  go_wp2_with (first | (go_at_call 87; with_reducible (refine (kf _).mono ?_); rintro _ _ ⟨rfl, kd, rfl⟩) | (go_at_call 85; with_reducible (refine (ko _).mono ?_); rintro _ _ ⟨rfl, ke, rfl⟩))
  go_ret
  exact ⟨rfl, _, by first | rfl | (rw [World.drewN_drewN])⟩

def reckons (w : World) : Array Value := #[.nilFunc, .nilFunc, .func (.func 76) #[] #[.pointer (some ⟨w.heap.size, 0, none⟩)], .func (.func 77) #[] #[], .func (.func 78) #[] #[], .func (.func 79) #[] #[], .func (.func 80) #[] #[], .func (.func 81) #[] #[], .func (.func 82) #[] #[], .func (.func 83) #[] #[], .func (.func 86) #[] #[], .func (.func 76) #[] #[.pointer (some ⟨w.heap.size + 1, 0, none⟩)], .func (.func 76) #[] #[.pointer (some ⟨w.heap.size + 1 + 1, 0, none⟩)], .func (.func 76) #[] #[.pointer (some ⟨w.heap.size + 1 + 1 + 1, 0, none⟩)]]

set_option maxHeartbeats 1000000 in
theorem reckon_gen_a {op : Int} {b c v : Nat} {F : FuncId} (w : World)
    (hix : ∀ wz, (Instr.index 120 (.agg (reckons w)) (.int .i64 op)).run Tryz.prog wz = .ok (.func (.func F) #[] #[]) wz)
    (hen : ∀ wz, (callFunc F #[.int .u64 (b : Nat), .int .u64 (c : Nat)]).run Tryz.prog wz = .ok (.enter F #[.int .u64 (b : Nat), .int .u64 (c : Nat)]) wz)
    (hcl : Calls Tryz.prog F #[.int .u64 (b : Nat), .int .u64 (c : Nat)] ((((w.alloc (.cells #[.func (.func 63) #[] #[]] 93)).alloc (.cells #[.func (.func 88) #[] #[]] 93)).alloc (.cells #[.func (.func 89) #[] #[]] 93)).alloc (.cells #[.func (.func 90) #[] #[]] 93)) fun e w' => e = .returned (.int .u64 (v : Nat)) ∧ ∃ n, w' = ((((w.alloc (.cells #[.func (.func 63) #[] #[]] 93)).alloc (.cells #[.func (.func 88) #[] #[]] 93)).alloc (.cells #[.func (.func 89) #[] #[]] 93)).alloc (.cells #[.func (.func 90) #[] #[]] 93)).drewN n) :
    Calls Tryz.prog 57 #[.int .i64 op, .int .u64 (b : Nat), .int .u64 (c : Nat)] w fun e w' => e = .returned (.int .u64 (v : Nat)) ∧ Below w.heap.size w w' := by
  unfold reckons at hix
  have HC := Lib.hid hcl
  clear hcl
  go_enter Tryz.func57, Tryz.ntmps57
  go_wp2_with (go_at_call 75; with_reducible (refine (one_any _ _).mono ?_); rintro _ _ ⟨rfl, rfl⟩)
  refine HC.out.mono ?_
  rintro _ _ ⟨rfl, kd, rfl⟩
  go_wp2
  go_ret
  exact ⟨rfl, below_drewN (four_grow _ _ _ _ _) _⟩

set_option maxHeartbeats 1000000 in
theorem reckon_gen_b {op : Int} {b c v : Nat} {F : FuncId} {k : Nat} (w : World)
    (hix : ∀ wz, (Instr.index 120 (.agg (reckons w)) (.int .i64 op)).run Tryz.prog wz = .ok (.func (.func F) #[] #[.pointer (some ⟨k, 0, none⟩)]) wz)
    (hen : ∀ wz, (callFunc F #[.int .u64 (b : Nat), .int .u64 (c : Nat), .pointer (some ⟨k, 0, none⟩)]).run Tryz.prog wz = .ok (.enter F #[.int .u64 (b : Nat), .int .u64 (c : Nat), .pointer (some ⟨k, 0, none⟩)]) wz)
    (hcl : Calls Tryz.prog F #[.int .u64 (b : Nat), .int .u64 (c : Nat), .pointer (some ⟨k, 0, none⟩)] ((((w.alloc (.cells #[.func (.func 63) #[] #[]] 93)).alloc (.cells #[.func (.func 88) #[] #[]] 93)).alloc (.cells #[.func (.func 89) #[] #[]] 93)).alloc (.cells #[.func (.func 90) #[] #[]] 93)) fun e w' => e = .returned (.int .u64 (v : Nat)) ∧ ∃ n, w' = ((((w.alloc (.cells #[.func (.func 63) #[] #[]] 93)).alloc (.cells #[.func (.func 88) #[] #[]] 93)).alloc (.cells #[.func (.func 89) #[] #[]] 93)).alloc (.cells #[.func (.func 90) #[] #[]] 93)).drewN n) :
    Calls Tryz.prog 57 #[.int .i64 op, .int .u64 (b : Nat), .int .u64 (c : Nat)] w fun e w' => e = .returned (.int .u64 (v : Nat)) ∧ Below w.heap.size w w' := by
  unfold reckons at hix
  have HC := Lib.hid hcl
  clear hcl
  go_enter Tryz.func57, Tryz.ntmps57
  go_wp2_with (go_at_call 75; with_reducible (refine (one_any _ _).mono ?_); rintro _ _ ⟨rfl, rfl⟩)
  refine HC.out.mono ?_
  rintro _ _ ⟨rfl, kd, rfl⟩
  go_wp2
  go_ret
  exact ⟨rfl, below_drewN (four_grow _ _ _ _ _) _⟩

set_option maxHeartbeats 1000000 in
theorem reckon_2 {b c : Nat} (hb : b < 2 * signB) (hc : c < 2 * signB) (w : World) : Calls Tryz.prog 57 #[.int .i64 2, .int .u64 (b : Nat), .int .u64 (c : Nat)] w fun e w' => e = .returned (.int .u64 (reckonM 2 b c : Nat)) ∧ Below w.heap.size w w' := by
  have hv : reckonM 2 b c = fcan b := by simp [reckonM]
  rw [hv]
  exact reckon_gen_b (F := 76) w (fun wz => idx14_2 _ _ _ _ _ _ _ _ _ _ _ _ _ _ wz) (fun wz => by kernel_rfl) (clos_canon hb c _ _ (four_at0 _ _ _ _ _ _))

set_option maxHeartbeats 1000000 in
theorem reckon_3 {b c : Nat} (hb : b < 2 * signB) (hc : c < 2 * signB) (w : World) : Calls Tryz.prog 57 #[.int .i64 3, .int .u64 (b : Nat), .int .u64 (c : Nat)] w fun e w' => e = .returned (.int .u64 (reckonM 3 b c : Nat)) ∧ Below w.heap.size w w' := by
  have hv : reckonM 3 b c = fadd b c := by simp [reckonM]
  rw [hv]
  exact reckon_gen_a (F := 77) w (fun wz => idx14_3 _ _ _ _ _ _ _ _ _ _ _ _ _ _ wz) (fun wz => by kernel_rfl) (add_any hb hc _)

set_option maxHeartbeats 1000000 in
theorem reckon_4 {b c : Nat} (hb : b < 2 * signB) (hc : c < 2 * signB) (w : World) : Calls Tryz.prog 57 #[.int .i64 4, .int .u64 (b : Nat), .int .u64 (c : Nat)] w fun e w' => e = .returned (.int .u64 (reckonM 4 b c : Nat)) ∧ Below w.heap.size w w' := by
  have hv : reckonM 4 b c = fsub b c := by simp [reckonM]
  rw [hv]
  exact reckon_gen_a (F := 78) w (fun wz => idx14_4 _ _ _ _ _ _ _ _ _ _ _ _ _ _ wz) (fun wz => by kernel_rfl) (sub_any hb hc _)

set_option maxHeartbeats 1000000 in
theorem reckon_5 {b c : Nat} (hb : b < 2 * signB) (hc : c < 2 * signB) (w : World) : Calls Tryz.prog 57 #[.int .i64 5, .int .u64 (b : Nat), .int .u64 (c : Nat)] w fun e w' => e = .returned (.int .u64 (reckonM 5 b c : Nat)) ∧ Below w.heap.size w w' := by
  have hv : reckonM 5 b c = fmul b c := by simp [reckonM]
  rw [hv]
  exact reckon_gen_a (F := 79) w (fun wz => idx14_5 _ _ _ _ _ _ _ _ _ _ _ _ _ _ wz) (fun wz => by kernel_rfl) (mul_any hb hc _)

set_option maxHeartbeats 1000000 in
theorem reckon_6 {b c : Nat} (hb : b < 2 * signB) (hc : c < 2 * signB) (w : World) : Calls Tryz.prog 57 #[.int .i64 6, .int .u64 (b : Nat), .int .u64 (c : Nat)] w fun e w' => e = .returned (.int .u64 (reckonM 6 b c : Nat)) ∧ Below w.heap.size w w' := by
  have hv : reckonM 6 b c = fdiv b c := by simp [reckonM]
  rw [hv]
  exact reckon_gen_a (F := 80) w (fun wz => idx14_6 _ _ _ _ _ _ _ _ _ _ _ _ _ _ wz) (fun wz => by kernel_rfl) (div_any hb hc _)

set_option maxHeartbeats 1000000 in
theorem reckon_7 {b c : Nat} (hb : b < 2 * signB) (hc : c < 2 * signB) (w : World) : Calls Tryz.prog 57 #[.int .i64 7, .int .u64 (b : Nat), .int .u64 (c : Nat)] w fun e w' => e = .returned (.int .u64 (reckonM 7 b c : Nat)) ∧ Below w.heap.size w w' := by
  have hv : reckonM 7 b c = fmin b c := by simp [reckonM]
  rw [hv]
  exact reckon_gen_a (F := 81) w (fun wz => idx14_7 _ _ _ _ _ _ _ _ _ _ _ _ _ _ wz) (fun wz => by kernel_rfl) (min_any hb hc _)

set_option maxHeartbeats 1000000 in
theorem reckon_8 {b c : Nat} (hb : b < 2 * signB) (hc : c < 2 * signB) (w : World) : Calls Tryz.prog 57 #[.int .i64 8, .int .u64 (b : Nat), .int .u64 (c : Nat)] w fun e w' => e = .returned (.int .u64 (reckonM 8 b c : Nat)) ∧ Below w.heap.size w w' := by
  have hv : reckonM 8 b c = fmax b c := by simp [reckonM]
  rw [hv]
  exact reckon_gen_a (F := 82) w (fun wz => idx14_8 _ _ _ _ _ _ _ _ _ _ _ _ _ _ wz) (fun wz => by kernel_rfl) (max_any hb hc _)

set_option maxHeartbeats 1000000 in
theorem reckon_9 {b c : Nat} (hb : b < 2 * signB) (hc : c < 2 * signB) (w : World) : Calls Tryz.prog 57 #[.int .i64 9, .int .u64 (b : Nat), .int .u64 (c : Nat)] w fun e w' => e = .returned (.int .u64 (reckonM 9 b c : Nat)) ∧ Below w.heap.size w w' := by
  have hv : reckonM 9 b c = if fless b c = true then fof 1 else 0 := by simp [reckonM]
  rw [hv]
  exact reckon_gen_a (F := 83) w (fun wz => idx14_9 _ _ _ _ _ _ _ _ _ _ _ _ _ _ wz) (fun wz => by kernel_rfl) (clos_less hb hc _)

set_option maxHeartbeats 1000000 in
theorem reckon_10 {b c : Nat} (hb : b < 2 * signB) (hc : c < 2 * signB) (w : World) : Calls Tryz.prog 57 #[.int .i64 10, .int .u64 (b : Nat), .int .u64 (c : Nat)] w fun e w' => e = .returned (.int .u64 (reckonM 10 b c : Nat)) ∧ Below w.heap.size w w' := by
  have hv : reckonM 10 b c = fof (forder b c) := by simp [reckonM]
  rw [hv]
  exact reckon_gen_a (F := 86) w (fun wz => idx14_10 _ _ _ _ _ _ _ _ _ _ _ _ _ _ wz) (fun wz => by kernel_rfl) (clos_order hb hc _)

set_option maxHeartbeats 1000000 in
theorem reckon_11 {b c : Nat} (hb : b < 2 * signB) (hc : c < 2 * signB) (w : World) : Calls Tryz.prog 57 #[.int .i64 11, .int .u64 (b : Nat), .int .u64 (c : Nat)] w fun e w' => e = .returned (.int .u64 (reckonM 11 b c : Nat)) ∧ Below w.heap.size w w' := by
  have hv : reckonM 11 b c = fneg b := by simp [reckonM]
  rw [hv]
  exact reckon_gen_b (F := 76) w (fun wz => idx14_11 _ _ _ _ _ _ _ _ _ _ _ _ _ _ wz) (fun wz => by kernel_rfl) (clos_neg hb c _ _ (four_at1 _ _ _ _ _ _))

set_option maxHeartbeats 1000000 in
theorem reckon_12 {b c : Nat} (hb : b < 2 * signB) (hc : c < 2 * signB) (w : World) : Calls Tryz.prog 57 #[.int .i64 12, .int .u64 (b : Nat), .int .u64 (c : Nat)] w fun e w' => e = .returned (.int .u64 (reckonM 12 b c : Nat)) ∧ Below w.heap.size w w' := by
  have hv : reckonM 12 b c = fabs b := by simp [reckonM]
  rw [hv]
  exact reckon_gen_b (F := 76) w (fun wz => idx14_12 _ _ _ _ _ _ _ _ _ _ _ _ _ _ wz) (fun wz => by kernel_rfl) (clos_abs hb c _ _ (four_at2 _ _ _ _ _ _))

set_option maxHeartbeats 1000000 in
theorem reckon_13 {b c : Nat} (hb : b < 2 * signB) (hc : c < 2 * signB) (w : World) : Calls Tryz.prog 57 #[.int .i64 13, .int .u64 (b : Nat), .int .u64 (c : Nat)] w fun e w' => e = .returned (.int .u64 (reckonM 13 b c : Nat)) ∧ Below w.heap.size w w' := by
  have hv : reckonM 13 b c = ffloor b := by simp [reckonM]
  rw [hv]
  exact reckon_gen_b (F := 76) w (fun wz => idx14_13 _ _ _ _ _ _ _ _ _ _ _ _ _ _ wz) (fun wz => by kernel_rfl) (clos_floor hb c _ _ (four_at3 _ _ _ _ _ _))

theorem reckon_any {op : Int} {b c : Nat} (h1 : 2 ≤ op) (h2 : op ≤ 13) (hb : b < 2 * signB) (hc : c < 2 * signB) (w : World) : Calls Tryz.prog 57 #[.int .i64 op, .int .u64 (b : Nat), .int .u64 (c : Nat)] w fun e w' => e = .returned (.int .u64 (reckonM op b c : Nat)) ∧ Below w.heap.size w w' := by
  obtain ⟨o, rfl⟩ := Int.eq_ofNat_of_zero_le (show 0 ≤ op by omega)
  have h3 : o = 2 ∨ o = 3 ∨ o = 4 ∨ o = 5 ∨ o = 6 ∨ o = 7 ∨ o = 8 ∨ o = 9 ∨ o = 10 ∨ o = 11 ∨ o = 12 ∨ o = 13 := by omega
  rcases h3 with rfl | rfl | rfl | rfl | rfl | rfl | rfl | rfl | rfl | rfl | rfl | rfl
  · exact reckon_2 hb hc w
  · exact reckon_3 hb hc w
  · exact reckon_4 hb hc w
  · exact reckon_5 hb hc w
  · exact reckon_6 hb hc w
  · exact reckon_7 hb hc w
  · exact reckon_8 hb hc w
  · exact reckon_9 hb hc w
  · exact reckon_10 hb hc w
  · exact reckon_11 hb hc w
  · exact reckon_12 hb hc w
  · exact reckon_13 hb hc w
end Go.Proofs.YtjloiclbknfomaaGreatDoor
