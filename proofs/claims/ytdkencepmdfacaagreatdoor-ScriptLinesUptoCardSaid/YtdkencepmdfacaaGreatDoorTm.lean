/- script.submit (contract). -/
import Derived.RangeFuncBox
import Derived.Test.YtdkencepmdfacaaGreatDoorTh
import Derived.Test.YtdkencepmdfacaaGreatDoorGr9
import Derived.Test.YtdkencepmdfacaaGreatDoorTf
import Derived.Test.YtdkencepmdfacaaGreatDoorPe
import Derived.Test.YtdkencepmdfacaaGreatDoorPz
import Derived.Test.YtdkencepmdfacaaGreatDoorPc
set_option maxRecDepth 100000
namespace Go.Proofs.YtdkencepmdfacaaGreatDoor
open Go.RowKit Ieee

def stp0 : Stp := ⟨0, 0, 0, 0, []⟩
theorem unsemi_len : ∀ l : List UInt8, (unsemi l).length ≤ l.length
  | [] => by simp [unsemi]
  | [c] => by simp [unsemi]
  | c :: d :: r => by
    rw [unsemi]
    have h1 := unsemi_len r
    have h2 := unsemi_len (d :: r)
    split
    · simp; omega
    · simp at h2 ⊢; omega

theorem ret_step2 {fn : Func} {R : Ending → World → Prop} {a : Act} {w : World} (h : fn.results = #[.cell 2 34, .tmp 3]) {g : Nat} {v0 v1 v2 v3 v4 x : Value}
    (hp : a.tmps.getD 2 undef = .pointer (some ⟨g, 0, none⟩)) (hx : a.tmps.getD 3 undef = x) (hg : Cells w g 34 #[v0, v1, v2, v3, v4]) (hdef : a.defers = []) (hR : R (.returned (.tuple #[.agg #[v0, v1, v2, v3, v4], x])) w) : bodyPost Tryz.prog fn R .ret a w :=
  ret_cell_tmp h hp hx hg Tryz.underlying34 rfl step_size hdef hR
set_option maxHeartbeats 8000000 in
set_option maxRecDepth 100000 in
theorem ssubmit_any (r : List UInt8) (hr : r.length ≤ 4096) (w : World) (hA : LibAt w) :
    Calls Tryz.prog 52 #[.string (strOf r)] w fun e w' => e = .returned (.tuple #[((readSub r).getD stp0).val, .bool (readSub r).isSome]) ∧ Below w.heap.size w w' := by
  have HA : Hid (∀ W, Below w.heap.size w W → LibAt W) := Lib.hid fun W hW => hA.keep hW
  have hul := unsemi_len r
  have HX := Lib.hid (Cells.new w 34 #[.int .i64 0, .int .i64 0, .int .i64 0, .int .i64 0, .string ⟨#[]⟩])
  have HB := Lib.hid ((Below.refl w.heap.size w).alloc (Nat.le_refl _) (.cells #[.int .i64 0, .int .i64 0, .int .i64 0, .int .i64 0, .string ⟨#[]⟩] 34))
  have KS := Lib.hid (fun W (hM : MaxAt W) => unsemi_any (l := r) (by omega) W hM)
  obtain ⟨er, ln, F, acc, hp⟩ : ∃ er ln F acc, parseT (unsemi r ++ [10]) = (er, ln, F, acc) := ⟨_, _, _, _, rfl⟩
  have ku := fun W (hW : AllAt W) => pparse_any (unsemi r ++ [10]) (by rw [List.length_append, List.length_singleton]; omega) W hW
  have KU : Hid (∀ W, AllAt W → Calls Tryz.prog 82 #[.string (strOf (unsemi r) ++ ⟨#[10]⟩)] W fun e w' => (∃ A cap, e = .returned (.tuple #[.agg #[.int .i64 (F : Nat), .slice A acc.length cap], .int .i64 er, .int .i64 (ln : Nat)]) ∧ RowI w' W.heap.size (.slice A acc.length cap) acc ∧ ∀ x ∈ acc, x.k < 2 * signB) ∧ Below W.heap.size W w') := Lib.hid fun W hW => by
    have k := ku W hW
    unfold ParseOut at k
    have e10 : strOf [10] = ⟨#[10]⟩ := rfl
    rw [hp, strOf_app, e10] at k
    exact k
  have HSUB : Hid (readSub r = if er = 0 then some ⟨1, 0, 0, 0, progB F acc⟩ else none) := Lib.hid (by unfold readSub; rw [hp])
  have HCK : Hid (er = 0 → (progCheck F acc).1 = 0) := Lib.hid fun h0 => by
    subst h0
    exact (print_parse hp).2.1
  have h7 : (strOf (unsemi r)).size ≤ 8000 := by rw [ba_size]; omega
  have e1 : (ByteArray.mk #[10]).size = 1 := rfl
  have hov : ¬ 9223372036854775807 < (strOf (unsemi r)).size + (ByteArray.mk #[10]).size := by omega
  obtain ⟨RS, hRS⟩ : ∃ RS, readSub r = RS := ⟨_, rfl⟩
  rw [hRS] at HSUB ⊢
  have HPB : Hid (er = 0 → RS = some ⟨1, 0, 0, 0, progB F acc⟩) := Lib.hid fun h0 => by rw [HSUB.out, if_pos h0]
  generalize strOf (unsemi r) = S1 at *
  generalize strOf r = S0 at *
  clear ku hp hul hr hA h7 e1 hRS
  go_enter Tryz.func52, Tryz.ntmps52
  go_upto_region 1 with fail
  generalize w.alloc (.cells #[.int .i64 0, .int .i64 0, .int .i64 0, .int .i64 0, .string ⟨#[]⟩] 34) = w1 at *
  go_upto_region 2 with (first | (go_at_call 39; refine (KS.out _ (HA.out _ HB.out).max).mono ?_; rintro _ w2 ⟨rfl, hb2⟩; have HX2 := Lib.hid (HX.out.keep hb2); have HB2 := Lib.hid (grow_to HB.out hb2); clear hb2) | (go_at_call 82; refine (KU.out _ (HA.out _ HB2.out).all).mono ?_; rintro _ w3 ⟨⟨A, cap, rfl, hr3, hk3⟩, hb3⟩; have HR3 := Lib.hid hr3; have HX3 := Lib.hid (HX2.out.keep hb3); have HB3 := Lib.hid (grow_to HB2.out hb3); clear hr3 hb3))
  have HP4 := Lib.hid (Cells.new w3 71 #[.int .i64 (F : Nat), .slice A acc.length cap])
  have HX4 := Lib.hid (HX3.out.alloc (.cells #[.int .i64 (F : Nat), .slice A acc.length cap] 71))
  have HR4 : Hid (RowI (w3.alloc (.cells #[.int .i64 (F : Nat), .slice A acc.length cap] 71)) w2.heap.size (.slice A acc.length cap) acc) := Lib.hid (HR3.out.keep ((Below.refl w3.heap.size w3).alloc (Nat.le_refl _) _))
  have HB4 := Lib.hid (HB3.out.alloc HB3.out.size (.cells #[.int .i64 (F : Nat), .slice A acc.length cap] 71))
  clear KS KU HX HB HX2 HB2 HR3 HX3 HB3
  generalize w3.alloc (.cells #[.int .i64 (F : Nat), .slice A acc.length cap] 71) = w4 at *
  generalize w3.heap.size = PB at *
  by_cases h0 : er = 0
  case neg =>
    have e0 : RS = none := HSUB.out.trans (if_neg h0)
    have HE0 := Lib.hid e0
    have t1 : (er == 0) = false := by rw [beq_eq_false_iff_ne]; exact h0
    have t2 : (er != 0) = true := by rw [bne_iff_ne]; exact h0
    clear h0 e0 hk3
    have x0 : w4.cell? ⟨w.heap.size, 0, none⟩ = some (.int .i64 0) := HX4.out.cell (j := 0) rfl
    have x1 : w4.cell? ⟨w.heap.size, 1, none⟩ = some (.int .i64 0) := HX4.out.cell (j := 1) rfl
    have x2 : w4.cell? ⟨w.heap.size, 2, none⟩ = some (.int .i64 0) := HX4.out.cell (j := 2) rfl
    have x3 : w4.cell? ⟨w.heap.size, 3, none⟩ = some (.int .i64 0) := HX4.out.cell (j := 3) rfl
    have x4 : w4.cell? ⟨w.heap.size, 4, none⟩ = some (.string ⟨#[]⟩) := HX4.out.cell (j := 4) rfl
    have xz0 := HX4.out.fz 0
    have xz1 := HX4.out.fz 1
    have xz2 := HX4.out.fz 2
    have xz3 := HX4.out.fz 3
    have xz4 := HX4.out.fz 4
    go_wp2
    exact ret_step2 rfl rfl rfl (set5_cells HX4.out) rfl ⟨by rw [HE0.out]; rfl, set5_below HB4.out (Nat.le_refl _)⟩
  have hck := HCK.out h0
  have hpb := HPB.out h0
  have kp := pack_any (F : Nat) A acc cap w4 (HR4.out.code hk3) hk3
  rw [if_pos hck, hck, show ((F : Nat) : Int).toNat = F from Int.toNat_natCast F] at kp
  have KP := Lib.hid kp
  have HPR := Lib.hid hpb
  subst h0
  have HSTR : Hid ((Stp.mk 1 0 0 0 (progB F acc)).str = str (progB F acc)) := Lib.hid rfl
  have p0 : w4.cell? ⟨PB, 0, none⟩ = some (.int .i64 (F : Nat)) := HP4.out.cell (j := 0) rfl
  have p1 : w4.cell? ⟨PB, 1, none⟩ = some (.slice A acc.length cap) := HP4.out.cell (j := 1) rfl
  clear kp hck hpb hk3 HPB HCK HSUB
  generalize str (progB F acc) = SB at *
  go_wp2_with (go_at_call 83; refine KP.out.mono ?_; rintro _ w5 ⟨rfl, hb5⟩; have HX5 := Lib.hid (HX4.out.keep hb5); have HB5 := Lib.hid (grow_to HB4.out hb5); have x0 : w5.cell? ⟨w.heap.size, 0, none⟩ = some (.int .i64 0) := HX5.out.cell (j := 0) rfl; have x1 : w5.cell? ⟨w.heap.size, 1, none⟩ = some (.int .i64 0) := HX5.out.cell (j := 1) rfl; have x2 : w5.cell? ⟨w.heap.size, 2, none⟩ = some (.int .i64 0) := HX5.out.cell (j := 2) rfl; have x3 : w5.cell? ⟨w.heap.size, 3, none⟩ = some (.int .i64 0) := HX5.out.cell (j := 3) rfl; have x4 : w5.cell? ⟨w.heap.size, 4, none⟩ = some (.string ⟨#[]⟩) := HX5.out.cell (j := 4) rfl; have xz0 := HX5.out.fz 0; have xz1 := HX5.out.fz 1; have xz2 := HX5.out.fz 2; have xz3 := HX5.out.fz 3; have xz4 := HX5.out.fz 4; clear hb5)
  exact ret_step2 rfl rfl rfl (set5_cells HX5.out) rfl ⟨by rw [HPR.out]; show _ = Ending.returned (.tuple #[.agg #[_, _, _, _, .string (Stp.mk 1 0 0 0 (progB F acc)).str], _]); rw [HSTR.out]; rfl, set5_below HB5.out (Nat.le_refl _)⟩
end Go.Proofs.YtdkencepmdfacaaGreatDoor
