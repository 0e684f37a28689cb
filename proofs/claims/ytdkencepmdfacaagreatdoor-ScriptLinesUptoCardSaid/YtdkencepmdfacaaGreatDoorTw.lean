/- gafferlaw23's awake (contract). -/
import Derived.RangeFuncBox
import Derived.Test.YtdkencepmdfacaaGreatDoorTu
set_option maxRecDepth 100000
namespace Go.Proofs.YtdkencepmdfacaaGreatDoor
open Go.RowKit Ieee

def exC : Cfg := ⟨1, 40, 2, 2, 2, 8, 4, 4, 160⟩
def exL : List Stp := [⟨1, 0, 0, 0, [9, 1, 24]⟩, ⟨2, 0, 0, 0, []⟩, ⟨10, 0, 3, -1, []⟩, ⟨7, 2, 0, 0, [0, 255]⟩]
def exT : List UInt8 := [102, 108, 101, 101, 116, 32, 49, 32, 52, 48, 32, 50, 32, 50, 32, 50, 32, 56, 32, 52, 32, 52, 32, 49, 54, 48, 10, 115, 117, 98, 109, 105, 116, 32, 102, 117, 101, 108, 32, 57, 59, 32, 104, 97, 108, 116, 10, 116, 105, 99, 107, 32, 48, 10, 99, 117, 116, 32, 51, 32, 45, 49, 10, 105, 110, 106, 101, 99, 116, 32, 50, 32, 48, 48, 102, 102, 10]
def exE : List UInt8 := [115, 117, 98, 109, 105, 116, 32, 102, 117, 101, 108, 32, 57, 59, 32, 104, 97, 108, 116, 10, 116, 105, 99, 107, 32, 48, 10, 99, 117, 116, 32, 51, 32, 45, 49, 10, 105, 110, 106, 101, 99, 116, 32, 50, 32, 48, 48, 102, 102, 10]
theorem ex_print : printS exC exL = (0, exT) := by kernel_rfl
theorem ex_parse : parseS exT = (0, 0, exC, exL) := by kernel_rfl
theorem ex_one : parseS [] = (230, 1, cfg0, []) := by kernel_rfl
theorem ex_zero : printS cfg0 [] = (230, []) := by kernel_rfl
theorem ex_step : printS exC [stp0] = (231, []) := by kernel_rfl
theorem ex_tail : exT.drop (exT.length - 50) = exE := by kernel_rfl
theorem ex_w64 : ∀ n ∈ exC.nums, w64 n := by
  intro n hn
  simp [exC, Cfg.nums] at hn
  unfold w64
  omega
theorem steps_one {w : World} {b : Nat} {l : List Stp} (h : Cells w b 34 (l.flatMap stpVals).toArray) (h64 : ∀ x ∈ l, x.W64) : StepsIn w w.heap.size (some ⟨b, 0, none⟩) l := fun _ => by
  refine ⟨b, 0, rfl, h.lt, fun i x hx => ⟨?_, h64 x (List.mem_of_getElem? hx)⟩⟩
  have key : ∀ j u, j < 5 → (stpVals x)[j]? = some u → w.cell? ⟨b, 0 + i * 5 + j, none⟩ = some u := fun j u hj hu => by
    rw [Nat.zero_add]
    exact h.cell (by rw [List.getElem?_toArray]; exact (flatT_at l i x j hx hj).trans hu)
  exact ⟨key 0 _ (by omega) rfl, key 1 _ (by omega) rfl, key 2 _ (by omega) rfl, key 3 _ (by omega) rfl, key 4 _ (by omega) rfl⟩
theorem ex_l64 : ∀ x ∈ exL, x.W64 := by
  intro x hx
  simp [exL] at hx
  unfold Stp.W64 w64
  rcases hx with rfl | rfl | rfl | rfl <;> simp
theorem ex_s64 : ∀ x ∈ [stp0], x.W64 := by
  intro x hx
  rw [List.mem_singleton] at hx
  subst hx
  unfold Stp.W64 w64 stp0
  simp
set_option maxHeartbeats 8000000 in
set_option maxRecDepth 100000 in
theorem awake_any (w : World) (hA : LibAt w) : Calls Tryz.prog 9 #[] w fun e w' => e = .returned (.bool true) ∧ Below w.heap.size w w' := by
  have HA : Hid (∀ W, Below w.heap.size w W → LibAt W) := Lib.hid fun W hW => hA.keep hW
  have HX := Lib.hid (Cells.new w 23 #[.int .i64 1, .int .i64 40, .int .i64 2, .int .i64 2, .int .i64 2, .int .i64 8, .int .i64 4, .int .i64 4, .int .i64 160])
  have HB := Lib.hid ((Below.refl w.heap.size w).alloc (Nat.le_refl _) (.cells #[.int .i64 1, .int .i64 40, .int .i64 2, .int .i64 2, .int .i64 2, .int .i64 8, .int .i64 4, .int .i64 4, .int .i64 160] 23))
  have KP : Hid (∀ (W : World) (b : Nat), Below w.heap.size w W → Cells W b 34 #[.int .i64 1, .int .i64 0, .int .i64 0, .int .i64 0, .string ⟨#[9, 1, 24]⟩, .int .i64 2, .int .i64 0, .int .i64 0, .int .i64 0, .string ⟨#[]⟩, .int .i64 10, .int .i64 0, .int .i64 3, .int .i64 (-1), .string ⟨#[]⟩, .int .i64 7, .int .i64 2, .int .i64 0, .int .i64 0, .string ⟨#[0, 255]⟩] → Calls Tryz.prog 7 #[.agg #[.int .i64 1, .int .i64 40, .int .i64 2, .int .i64 2, .int .i64 2, .int .i64 8, .int .i64 4, .int .i64 4, .int .i64 160], .slice (some ⟨b, 0, none⟩) 4 4] W fun e w' => e = .returned (.tuple #[.string (strOf exT), .int .i64 0]) ∧ Below W.heap.size W w') := Lib.hid fun W b hW hc => by
    have k := sprint_any exC ex_w64 (some ⟨b, 0, none⟩) exL 4 W (steps_one hc ex_l64) (hA.keep hW)
    rw [ex_print] at k
    exact k
  have KS : Hid (∀ (W : World) (b : Nat), Below w.heap.size w W → Cells W b 34 #[.int .i64 0, .int .i64 0, .int .i64 0, .int .i64 0, .string ⟨#[]⟩] → Calls Tryz.prog 7 #[.agg #[.int .i64 1, .int .i64 40, .int .i64 2, .int .i64 2, .int .i64 2, .int .i64 8, .int .i64 4, .int .i64 4, .int .i64 160], .slice (some ⟨b, 0, none⟩) 1 1] W fun e w' => e = .returned (.tuple #[.string ⟨#[]⟩, .int .i64 231]) ∧ Below W.heap.size W w') := Lib.hid fun W b hW hc => by
    have k := sprint_any exC ex_w64 (some ⟨b, 0, none⟩) [stp0] 1 W (steps_one hc ex_s64) (hA.keep hW)
    rw [ex_step] at k
    exact k
  have KZ : Hid (∀ (W : World), Below w.heap.size w W → Calls Tryz.prog 7 #[.agg #[.int .i64 0, .int .i64 0, .int .i64 0, .int .i64 0, .int .i64 0, .int .i64 0, .int .i64 0, .int .i64 0, .int .i64 0], .slice none 0 0] W fun e w' => e = .returned (.tuple #[.string ⟨#[]⟩, .int .i64 230]) ∧ Below W.heap.size W w') := Lib.hid fun W hW => by
    have k := sprint_any cfg0 (by intro n hn; simp [cfg0, Cfg.nums] at hn; subst hn; unfold w64; omega) none [] 0 W (fun h => absurd h (by simp)) (hA.keep hW)
    rw [ex_zero] at k
    exact k
  have KR : Hid (∀ W, Below w.heap.size w W → Calls Tryz.prog 10 #[.string (strOf exT)] W fun e w' => (∃ A2 cap2, e = .returned (.tuple #[.agg #[.int .i64 1, .int .i64 40, .int .i64 2, .int .i64 2, .int .i64 2, .int .i64 8, .int .i64 4, .int .i64 4, .int .i64 160], .slice A2 4 cap2, .int .i64 0, .int .i64 0]) ∧ RowT w' W.heap.size (.slice A2 exL.length cap2) exL) ∧ Below W.heap.size W w') := Lib.hid fun W hW => by
    have k := sparse_any exT (by decide) W (hA.keep hW)
    unfold SParseOut at k
    rw [ex_parse] at k
    exact k
  have KE : Hid (∀ W, Below w.heap.size w W → Calls Tryz.prog 10 #[.string ⟨#[]⟩] W fun e w' => (∃ A2 cap2, e = .returned (.tuple #[.agg #[.int .i64 0, .int .i64 0, .int .i64 0, .int .i64 0, .int .i64 0, .int .i64 0, .int .i64 0, .int .i64 0, .int .i64 0], .slice A2 0 cap2, .int .i64 230, .int .i64 1])) ∧ Below W.heap.size W w') := Lib.hid fun W hW => by
    have k := sparse_any [] (by decide) W (hA.keep hW)
    unfold SParseOut at k
    rw [ex_one] at k
    refine Calls.mono (show Calls Tryz.prog 10 #[.string ⟨#[]⟩] W _ from k) ?_
    rintro e w' ⟨⟨A2, cap2, h1, _⟩, hb⟩
    exact ⟨⟨A2, cap2, h1⟩, hb⟩
  obtain ⟨S, hS⟩ : ∃ S, strOf exT = S := ⟨_, rfl⟩
  have HS1 : Hid (S.size = 77) := Lib.hid (by rw [← hS]; rfl)
  have HS2 : Hid (S.extract (77 - 50) 77 = ⟨#[115, 117, 98, 109, 105, 116, 32, 102, 117, 101, 108, 32, 57, 59, 32, 104, 97, 108, 116, 10, 116, 105, 99, 107, 32, 48, 10, 99, 117, 116, 32, 51, 32, 45, 49, 10, 105, 110, 106, 101, 99, 116, 32, 50, 32, 48, 48, 102, 102, 10]⟩) := Lib.hid (by rw [← hS]; rfl)
  rw [hS] at KP KR
  clear hS hA
  go_enter Tryz.func9, Tryz.ntmps9
  go_upto_region 2 with fail
  generalize w.alloc (.cells #[.int .i64 1, .int .i64 40, .int .i64 2, .int .i64 2, .int .i64 2, .int .i64 8, .int .i64 4, .int .i64 4, .int .i64 160] 23) = w1 at *
  have HX2 := Lib.hid (HX.out.alloc (.cells #[.int .i64 1, .int .i64 0, .int .i64 0, .int .i64 0, .string ⟨#[9, 1, 24]⟩, .int .i64 2, .int .i64 0, .int .i64 0, .int .i64 0, .string ⟨#[]⟩, .int .i64 10, .int .i64 0, .int .i64 3, .int .i64 (-1), .string ⟨#[]⟩, .int .i64 7, .int .i64 2, .int .i64 0, .int .i64 0, .string ⟨#[0, 255]⟩] 34))
  have HL2 := Lib.hid (Cells.new w1 34 #[.int .i64 1, .int .i64 0, .int .i64 0, .int .i64 0, .string ⟨#[9, 1, 24]⟩, .int .i64 2, .int .i64 0, .int .i64 0, .int .i64 0, .string ⟨#[]⟩, .int .i64 10, .int .i64 0, .int .i64 3, .int .i64 (-1), .string ⟨#[]⟩, .int .i64 7, .int .i64 2, .int .i64 0, .int .i64 0, .string ⟨#[0, 255]⟩])
  have HB2 := Lib.hid (HB.out.alloc HB.out.size (.cells #[.int .i64 1, .int .i64 0, .int .i64 0, .int .i64 0, .string ⟨#[9, 1, 24]⟩, .int .i64 2, .int .i64 0, .int .i64 0, .int .i64 0, .string ⟨#[]⟩, .int .i64 10, .int .i64 0, .int .i64 3, .int .i64 (-1), .string ⟨#[]⟩, .int .i64 7, .int .i64 2, .int .i64 0, .int .i64 0, .string ⟨#[0, 255]⟩] 34))
  go_upto_region 3 with fail
  clear HX HB
  generalize w1.alloc (.cells #[.int .i64 1, .int .i64 0, .int .i64 0, .int .i64 0, .string ⟨#[9, 1, 24]⟩, .int .i64 2, .int .i64 0, .int .i64 0, .int .i64 0, .string ⟨#[]⟩, .int .i64 10, .int .i64 0, .int .i64 3, .int .i64 (-1), .string ⟨#[]⟩, .int .i64 7, .int .i64 2, .int .i64 0, .int .i64 0, .string ⟨#[0, 255]⟩] 34) = w2 at *
  generalize w1.heap.size = LB at *
  have x0 : w2.cell? ⟨w.heap.size, 0, none⟩ = some (.int .i64 1) := HX2.out.cell (j := 0) rfl
  have x1 : w2.cell? ⟨w.heap.size, 1, none⟩ = some (.int .i64 40) := HX2.out.cell (j := 1) rfl
  have x2 : w2.cell? ⟨w.heap.size, 2, none⟩ = some (.int .i64 2) := HX2.out.cell (j := 2) rfl
  have x3 : w2.cell? ⟨w.heap.size, 3, none⟩ = some (.int .i64 2) := HX2.out.cell (j := 3) rfl
  have x4 : w2.cell? ⟨w.heap.size, 4, none⟩ = some (.int .i64 2) := HX2.out.cell (j := 4) rfl
  have x5 : w2.cell? ⟨w.heap.size, 5, none⟩ = some (.int .i64 8) := HX2.out.cell (j := 5) rfl
  have x6 : w2.cell? ⟨w.heap.size, 6, none⟩ = some (.int .i64 4) := HX2.out.cell (j := 6) rfl
  have x7 : w2.cell? ⟨w.heap.size, 7, none⟩ = some (.int .i64 4) := HX2.out.cell (j := 7) rfl
  have x8 : w2.cell? ⟨w.heap.size, 8, none⟩ = some (.int .i64 160) := HX2.out.cell (j := 8) rfl
  go_upto_region 4 with (go_at_call 7; refine (KP.out _ LB HB2.out HL2.out).mono ?_; rintro _ w3 ⟨rfl, hb3⟩; have HX3 := Lib.hid (HX2.out.keep hb3); have HL3 := Lib.hid (HL2.out.keep hb3); have HB3 := Lib.hid (grow_to HB2.out hb3); clear hb3)
  go_upto_region 5 with (go_at_call 10; refine (KR.out _ HB3.out).mono ?_; rintro _ w4 ⟨⟨A2, cap2, rfl, hr4⟩, hb4⟩; have HX4 := Lib.hid (HX3.out.keep hb4); have HL4 := Lib.hid (HL3.out.keep hb4); have HB4 := Lib.hid (grow_to HB3.out hb4); have HR4 := Lib.hid hr4; clear hb4 hr4)
  have HD5 := Lib.hid (Cells.new w4 23 #[.int .i64 1, .int .i64 40, .int .i64 2, .int .i64 2, .int .i64 2, .int .i64 8, .int .i64 4, .int .i64 4, .int .i64 160])
  have HX5 := Lib.hid (HX4.out.alloc (.cells #[.int .i64 1, .int .i64 40, .int .i64 2, .int .i64 2, .int .i64 2, .int .i64 8, .int .i64 4, .int .i64 4, .int .i64 160] 23))
  have HL5 := Lib.hid (HL4.out.alloc (.cells #[.int .i64 1, .int .i64 40, .int .i64 2, .int .i64 2, .int .i64 2, .int .i64 8, .int .i64 4, .int .i64 4, .int .i64 160] 23))
  have HR5 := Lib.hid (HR4.out.keep ((Below.refl w4.heap.size w4).alloc (Nat.le_refl _) (.cells #[.int .i64 1, .int .i64 40, .int .i64 2, .int .i64 2, .int .i64 2, .int .i64 8, .int .i64 4, .int .i64 4, .int .i64 160] 23)))
  have HB5 := Lib.hid (HB4.out.alloc HB4.out.size (.cells #[.int .i64 1, .int .i64 40, .int .i64 2, .int .i64 2, .int .i64 2, .int .i64 8, .int .i64 4, .int .i64 4, .int .i64 160] 23))
  generalize w4.alloc (.cells #[.int .i64 1, .int .i64 40, .int .i64 2, .int .i64 2, .int .i64 2, .int .i64 8, .int .i64 4, .int .i64 4, .int .i64 160] 23) = w5 at *
  generalize w4.heap.size = DB at *
  go_upto_region 6 with (go_at_call 10; refine (KE.out _ HB5.out).mono ?_; rintro _ w6 ⟨⟨A3, cap3, rfl⟩, hb6⟩; have HX6 := Lib.hid (HX5.out.keep hb6); have HL6 := Lib.hid (HL5.out.keep hb6); have HD6 := Lib.hid (HD5.out.keep hb6); have HR6 := Lib.hid (HR5.out.keep hb6); have HB6 := Lib.hid (grow_to HB5.out hb6); clear hb6)
  have HX7 := Lib.hid (HX6.out.alloc (.cells #[.int .i64 0, .int .i64 0, .int .i64 0, .int .i64 0, .int .i64 0, .int .i64 0, .int .i64 0, .int .i64 0, .int .i64 0] 23))
  have HL7 := Lib.hid (HL6.out.alloc (.cells #[.int .i64 0, .int .i64 0, .int .i64 0, .int .i64 0, .int .i64 0, .int .i64 0, .int .i64 0, .int .i64 0, .int .i64 0] 23))
  have HD7 := Lib.hid (HD6.out.alloc (.cells #[.int .i64 0, .int .i64 0, .int .i64 0, .int .i64 0, .int .i64 0, .int .i64 0, .int .i64 0, .int .i64 0, .int .i64 0] 23))
  have HR7 := Lib.hid (HR6.out.keep ((Below.refl w6.heap.size w6).alloc (Nat.le_refl _) (.cells #[.int .i64 0, .int .i64 0, .int .i64 0, .int .i64 0, .int .i64 0, .int .i64 0, .int .i64 0, .int .i64 0, .int .i64 0] 23)))
  have HB7 := Lib.hid (HB6.out.alloc HB6.out.size (.cells #[.int .i64 0, .int .i64 0, .int .i64 0, .int .i64 0, .int .i64 0, .int .i64 0, .int .i64 0, .int .i64 0, .int .i64 0] 23))
  generalize w6.alloc (.cells #[.int .i64 0, .int .i64 0, .int .i64 0, .int .i64 0, .int .i64 0, .int .i64 0, .int .i64 0, .int .i64 0, .int .i64 0] 23) = w7 at *
  generalize w6.heap.size = EB at *
  go_upto_region 7 with (go_at_call 7; refine (KZ.out _ HB7.out).mono ?_; rintro _ w8 ⟨rfl, hb8⟩; have HX8 := Lib.hid (HX7.out.keep hb8); have HL8 := Lib.hid (HL7.out.keep hb8); have HD8 := Lib.hid (HD7.out.keep hb8); have HR8 := Lib.hid (HR7.out.keep hb8); have HB8 := Lib.hid (grow_to HB7.out hb8); clear hb8)
  have x0 : w8.cell? ⟨w.heap.size, 0, none⟩ = some (.int .i64 1) := HX8.out.cell (j := 0) rfl
  have x1 : w8.cell? ⟨w.heap.size, 1, none⟩ = some (.int .i64 40) := HX8.out.cell (j := 1) rfl
  have x2 : w8.cell? ⟨w.heap.size, 2, none⟩ = some (.int .i64 2) := HX8.out.cell (j := 2) rfl
  have x3 : w8.cell? ⟨w.heap.size, 3, none⟩ = some (.int .i64 2) := HX8.out.cell (j := 3) rfl
  have x4 : w8.cell? ⟨w.heap.size, 4, none⟩ = some (.int .i64 2) := HX8.out.cell (j := 4) rfl
  have x5 : w8.cell? ⟨w.heap.size, 5, none⟩ = some (.int .i64 8) := HX8.out.cell (j := 5) rfl
  have x6 : w8.cell? ⟨w.heap.size, 6, none⟩ = some (.int .i64 4) := HX8.out.cell (j := 6) rfl
  have x7 : w8.cell? ⟨w.heap.size, 7, none⟩ = some (.int .i64 4) := HX8.out.cell (j := 7) rfl
  have x8 : w8.cell? ⟨w.heap.size, 8, none⟩ = some (.int .i64 160) := HX8.out.cell (j := 8) rfl
  have HX9 := Lib.hid (HX8.out.alloc (.cells #[.int .i64 0, .int .i64 0, .int .i64 0, .int .i64 0, .string ⟨#[]⟩] 34))
  have HL9 := Lib.hid (HL8.out.alloc (.cells #[.int .i64 0, .int .i64 0, .int .i64 0, .int .i64 0, .string ⟨#[]⟩] 34))
  have HD9 := Lib.hid (HD8.out.alloc (.cells #[.int .i64 0, .int .i64 0, .int .i64 0, .int .i64 0, .string ⟨#[]⟩] 34))
  have HZ9 := Lib.hid (Cells.new w8 34 #[.int .i64 0, .int .i64 0, .int .i64 0, .int .i64 0, .string ⟨#[]⟩])
  have HR9 := Lib.hid (HR8.out.keep ((Below.refl w8.heap.size w8).alloc (Nat.le_refl _) (.cells #[.int .i64 0, .int .i64 0, .int .i64 0, .int .i64 0, .string ⟨#[]⟩] 34)))
  have HB9 := Lib.hid (HB8.out.alloc HB8.out.size (.cells #[.int .i64 0, .int .i64 0, .int .i64 0, .int .i64 0, .string ⟨#[]⟩] 34))
  go_upto_region 8 with (go_at_call 7; refine (KS.out _ w8.heap.size HB9.out HZ9.out).mono ?_; rintro _ w10 ⟨rfl, hb10⟩; have HX10 := Lib.hid (HX9.out.keep hb10); have HL10 := Lib.hid (HL9.out.keep hb10); have HD10 := Lib.hid (HD9.out.keep hb10); have HR10 := Lib.hid (HR9.out.keep hb10); have HB10 := Lib.hid (grow_to HB9.out hb10); clear hb10)
  have x0 : w10.cell? ⟨w.heap.size, 0, none⟩ = some (.int .i64 1) := HX10.out.cell (j := 0) rfl
  have x1 : w10.cell? ⟨w.heap.size, 1, none⟩ = some (.int .i64 40) := HX10.out.cell (j := 1) rfl
  have x2 : w10.cell? ⟨w.heap.size, 2, none⟩ = some (.int .i64 2) := HX10.out.cell (j := 2) rfl
  have x3 : w10.cell? ⟨w.heap.size, 3, none⟩ = some (.int .i64 2) := HX10.out.cell (j := 3) rfl
  have x4 : w10.cell? ⟨w.heap.size, 4, none⟩ = some (.int .i64 2) := HX10.out.cell (j := 4) rfl
  have x5 : w10.cell? ⟨w.heap.size, 5, none⟩ = some (.int .i64 8) := HX10.out.cell (j := 5) rfl
  have x6 : w10.cell? ⟨w.heap.size, 6, none⟩ = some (.int .i64 4) := HX10.out.cell (j := 6) rfl
  have x7 : w10.cell? ⟨w.heap.size, 7, none⟩ = some (.int .i64 4) := HX10.out.cell (j := 7) rfl
  have x8 : w10.cell? ⟨w.heap.size, 8, none⟩ = some (.int .i64 160) := HX10.out.cell (j := 8) rfl
  have y0 : w10.cell? ⟨DB, 0, none⟩ = some (.int .i64 1) := HD10.out.cell (j := 0) rfl
  have y1 : w10.cell? ⟨DB, 1, none⟩ = some (.int .i64 40) := HD10.out.cell (j := 1) rfl
  have y2 : w10.cell? ⟨DB, 2, none⟩ = some (.int .i64 2) := HD10.out.cell (j := 2) rfl
  have y3 : w10.cell? ⟨DB, 3, none⟩ = some (.int .i64 2) := HD10.out.cell (j := 3) rfl
  have y4 : w10.cell? ⟨DB, 4, none⟩ = some (.int .i64 2) := HD10.out.cell (j := 4) rfl
  have y5 : w10.cell? ⟨DB, 5, none⟩ = some (.int .i64 8) := HD10.out.cell (j := 5) rfl
  have y6 : w10.cell? ⟨DB, 6, none⟩ = some (.int .i64 4) := HD10.out.cell (j := 6) rfl
  have y7 : w10.cell? ⟨DB, 7, none⟩ = some (.int .i64 4) := HD10.out.cell (j := 7) rfl
  have y8 : w10.cell? ⟨DB, 8, none⟩ = some (.int .i64 160) := HD10.out.cell (j := 8) rfl
  have KSM := Lib.hid (show Calls Tryz.prog 12 #[.slice (some ⟨LB, 0, none⟩) 4 4, .slice A2 4 cap2] w10 fun e w' => e = .returned (.bool true) ∧ Below w10.heap.size w10 w' from by
    have k := ssame_any (some ⟨LB, 0, none⟩) A2 exL exL 4 cap2 w10 (steps_one HL10.out ex_l64) (HR10.out.steps ex_l64) (by decide)
    rw [decide_eq_true rfl] at k
    exact k)
  have hsz := HS1.out
  have hex := HS2.out
  have hwz : wrap64 ((77 : Int) - 50) = ((77 - 50 : Nat) : Int) := by unfold wrap64; omega
  go_wp2_with (go_at_call 12; refine KSM.out.mono ?_; rintro _ w11 ⟨rfl, hb11⟩; have HB11 := Lib.hid (grow_to HB10.out hb11); clear hb11)
  go_ret
  exact ⟨by first | rfl | simp, HB11.out⟩
end Go.Proofs.YtdkencepmdfacaaGreatDoor
