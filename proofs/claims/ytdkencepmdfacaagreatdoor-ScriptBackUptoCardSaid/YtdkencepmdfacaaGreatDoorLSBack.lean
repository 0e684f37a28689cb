/- The law ScriptBack: what is printed is read as what it was; what is read is printed byte by byte. -/
import Derived.RangeFuncBox
import Derived.Shelf.Vars
import Derived.Test.YtdkencepmdfacaaGreatDoorTw
import Derived.Test.YtdkencepmdfacaaGreatDoorNumUpto
set_option maxRecDepth 100000
namespace Go.Proofs.YtdkencepmdfacaaGreatDoor.scriptBack
open Go.ChangeMaps (open_string shut_string)
open Go.RowKit Go.WideShapes Go.ChangeShapes Go.ChangeAt Ieee

theorem all_of {W : World} (h : laidMetH Tryz.prog laidOf W) : AllAt W := ⟨tabs_of h, err_of h, syn_of h⟩
theorem steps_wf {w : World} {B : Nat} {A : Option Addr} {l : List Stp} (h : StepsIn w B A l) {s : Stp} (hs : s ∈ l) : s.W64 := by
  obtain ⟨i, hi, rfl⟩ := List.getElem_of_mem hs
  obtain ⟨b, off, e, hb, hc⟩ := h (by omega)
  exact (hc i _ (List.getElem?_eq_getElem hi)).2
theorem wf64 {s : Stp} (h : s.Wf) : s.W64 := by
  have := h.ok
  exact ⟨by have h1 := this.1; have h2 := this.2.1; unfold w64; omega, h.a, h.k, h.x⟩
theorem steps_small {w : World} {B : Nat} {A : Option Addr} {l : List Stp} (h : StepsIn w B A l) {s : Stp} (hs : s ∈ l) : w64 s.a ∧ w64 s.k ∧ w64 s.x := ⟨(steps_wf h hs).2.1, (steps_wf h hs).2.2.1, (steps_wf h hs).2.2.2⟩
set_option maxHeartbeats 8000000 in
set_option maxRecDepth 100000 in
theorem walk (c : Cfg) (h64 : ∀ n ∈ c.nums, w64 n) (A : Option Addr) (l : List Stp) (cap : Nat) (T : List UInt8) (hT : T.length < 1073741824) (w : World) (hC : StepsIn w w.heap.size A l) (hA : LibAt w) :
    Calls Tryz.prog 5 #[c.val, .slice A l.length cap, .string (strOf T)] w fun e w' => e = .returned (.bool true) ∧ Below w.heap.size w w' := by
  have HA : Hid (∀ W, Below w.heap.size w W → LibAt W) := Lib.hid fun W hW => hA.keep hW
  have HB := Lib.hid ((Below.refl w.heap.size w).alloc (Nat.le_refl _) (.cells #[.int .i64 c.ru, .int .i64 c.le, .int .i64 c.re, .int .i64 c.att, .int .i64 c.wi, .int .i64 c.qu, .int .i64 c.bl, .int .i64 c.ev, .int .i64 c.ha] 23))
  have HX := Lib.hid (Cells.new w 23 #[.int .i64 c.ru, .int .i64 c.le, .int .i64 c.re, .int .i64 c.att, .int .i64 c.wi, .int .i64 c.qu, .int .i64 c.bl, .int .i64 c.ev, .int .i64 c.ha])
  have HC := Lib.hid hC
  have HKA : Hid (∀ W, Below w.heap.size w W → Calls Tryz.prog 9 #[] W fun e w' => e = .returned (.bool true) ∧ Below W.heap.size W w') := Lib.hid fun W hW => awake_any W (hA.keep hW)
  obtain ⟨⟨E1, t1⟩, hp1⟩ : ∃ R, printS c l = R := ⟨_, rfl⟩
  have HKP : Hid (∀ W, Below w.heap.size w W → Calls Tryz.prog 7 #[.agg #[.int .i64 c.ru, .int .i64 c.le, .int .i64 c.re, .int .i64 c.att, .int .i64 c.wi, .int .i64 c.qu, .int .i64 c.bl, .int .i64 c.ev, .int .i64 c.ha], .slice A l.length cap] W fun e w' => e = .returned (.tuple #[.string (strOf t1), .int .i64 E1]) ∧ Below W.heap.size W w') := Lib.hid fun W hW => by
    have k := sprint_any c h64 A l cap W ((hC.keep hW).more hW.size) (hA.keep hW)
    rw [hp1] at k
    exact k
  obtain ⟨⟨E2, K2, d, m⟩, hp2⟩ : ∃ R, parseS T = R := ⟨_, rfl⟩
  have HKR : Hid (∀ W, Below w.heap.size w W → Calls Tryz.prog 10 #[.string (strOf T)] W fun e w' => (∃ A2 cap2, e = .returned (.tuple #[.agg #[.int .i64 d.ru, .int .i64 d.le, .int .i64 d.re, .int .i64 d.att, .int .i64 d.wi, .int .i64 d.qu, .int .i64 d.bl, .int .i64 d.ev, .int .i64 d.ha], .slice A2 m.length cap2, .int .i64 E2, .int .i64 (K2 : Nat)]) ∧ RowT w' W.heap.size (.slice A2 m.length cap2) m) ∧ Below W.heap.size W w') := Lib.hid fun W hW => by
    have k := sparse_any T hT W (hA.keep hW)
    unfold SParseOut at k
    rw [hp2] at k
    exact k
  have HSAFE : Hid (E2 ≠ 0 → m = []) := Lib.hid fun h => by
    have := parseS_fault (t := T) (by rw [hp2]; exact h)
    rw [hp2] at this
    exact this
  have HGOOD : Hid (E2 = 0 → (∀ n ∈ d.nums, w64 n) ∧ printS d m = (0, T) ∧ ∀ s ∈ m, s.Wf) := Lib.hid fun h => by
    subst h
    obtain ⟨_, g2, g3⟩ := script_forth hp2
    exact ⟨cfg_wf (printS_told g2).1, g2, g3⟩
  have HB1 : Hid (E1 = 0 → (parseS t1 = (0, 0, c, l)) ∧ t1.length ≤ 32768 ∧ l.length ≤ 2000) := Lib.hid fun h => by
    subst h
    exact ⟨script_back (fun s hs => steps_small hC hs) hp1, (printS_told hp1).2.2.2.2.2, (printS_told hp1).2.1⟩
  show Calls Tryz.prog 5 #[.agg #[.int .i64 c.ru, .int .i64 c.le, .int .i64 c.re, .int .i64 c.att, .int .i64 c.wi, .int .i64 c.qu, .int .i64 c.bl, .int .i64 c.ev, .int .i64 c.ha], .slice A l.length cap, .string (strOf T)] w _
  clear hC hA hp1 hp2 h64 hT
  obtain ⟨ST, hST⟩ : ∃ ST, strOf T = ST := ⟨_, rfl⟩
  have HST := Lib.hid hST
  rw [hST] at HKR ⊢
  clear hST
  go_enter Tryz.func5, Tryz.ntmps5
  go_upto_region 1 with fail
  generalize w.alloc (.cells #[.int .i64 c.ru, .int .i64 c.le, .int .i64 c.re, .int .i64 c.att, .int .i64 c.wi, .int .i64 c.qu, .int .i64 c.bl, .int .i64 c.ev, .int .i64 c.ha] 23) = w1 at *
  have x0 : w1.cell? ⟨w.heap.size, 0, none⟩ = some (.int .i64 c.ru) := HX.out.cell (j := 0) rfl
  have x1 : w1.cell? ⟨w.heap.size, 1, none⟩ = some (.int .i64 c.le) := HX.out.cell (j := 1) rfl
  have x2 : w1.cell? ⟨w.heap.size, 2, none⟩ = some (.int .i64 c.re) := HX.out.cell (j := 2) rfl
  have x3 : w1.cell? ⟨w.heap.size, 3, none⟩ = some (.int .i64 c.att) := HX.out.cell (j := 3) rfl
  have x4 : w1.cell? ⟨w.heap.size, 4, none⟩ = some (.int .i64 c.wi) := HX.out.cell (j := 4) rfl
  have x5 : w1.cell? ⟨w.heap.size, 5, none⟩ = some (.int .i64 c.qu) := HX.out.cell (j := 5) rfl
  have x6 : w1.cell? ⟨w.heap.size, 6, none⟩ = some (.int .i64 c.bl) := HX.out.cell (j := 6) rfl
  have x7 : w1.cell? ⟨w.heap.size, 7, none⟩ = some (.int .i64 c.ev) := HX.out.cell (j := 7) rfl
  have x8 : w1.cell? ⟨w.heap.size, 8, none⟩ = some (.int .i64 c.ha) := HX.out.cell (j := 8) rfl
  go_upto_region 4 with (first | (go_at_call 9; refine (HKA.out _ HB.out).mono ?_; rintro _ w2 ⟨rfl, hb2⟩; have HB2 := Lib.hid (grow_to HB.out hb2); have HX2 := Lib.hid (HX.out.keep hb2); have y0 : w2.cell? ⟨w.heap.size, 0, none⟩ = some (.int .i64 c.ru) := HX2.out.cell (j := 0) rfl; have y1 : w2.cell? ⟨w.heap.size, 1, none⟩ = some (.int .i64 c.le) := HX2.out.cell (j := 1) rfl; have y2 : w2.cell? ⟨w.heap.size, 2, none⟩ = some (.int .i64 c.re) := HX2.out.cell (j := 2) rfl; have y3 : w2.cell? ⟨w.heap.size, 3, none⟩ = some (.int .i64 c.att) := HX2.out.cell (j := 3) rfl; have y4 : w2.cell? ⟨w.heap.size, 4, none⟩ = some (.int .i64 c.wi) := HX2.out.cell (j := 4) rfl; have y5 : w2.cell? ⟨w.heap.size, 5, none⟩ = some (.int .i64 c.qu) := HX2.out.cell (j := 5) rfl; have y6 : w2.cell? ⟨w.heap.size, 6, none⟩ = some (.int .i64 c.bl) := HX2.out.cell (j := 6) rfl; have y7 : w2.cell? ⟨w.heap.size, 7, none⟩ = some (.int .i64 c.ev) := HX2.out.cell (j := 7) rfl; have y8 : w2.cell? ⟨w.heap.size, 8, none⟩ = some (.int .i64 c.ha) := HX2.out.cell (j := 8) rfl; clear hb2) | (go_at_call 7; refine (HKP.out _ HB2.out).mono ?_; rintro _ w3 ⟨rfl, hb3⟩; have HB3 := Lib.hid (grow_to HB2.out hb3); have HX3 := Lib.hid (HX2.out.keep hb3); clear hb3))
  by_cases h1 : E1 = 0
  · subst h1
    obtain ⟨hpb, htl, hll⟩ := HB1.out rfl
    have HKQ : Hid (∀ W, Below w.heap.size w W → Calls Tryz.prog 10 #[.string (strOf t1)] W fun e w' => (∃ A2 cap2, e = .returned (.tuple #[.agg #[.int .i64 c.ru, .int .i64 c.le, .int .i64 c.re, .int .i64 c.att, .int .i64 c.wi, .int .i64 c.qu, .int .i64 c.bl, .int .i64 c.ev, .int .i64 c.ha], .slice A2 l.length cap2, .int .i64 0, .int .i64 0]) ∧ RowT w' W.heap.size (.slice A2 l.length cap2) l) ∧ Below W.heap.size W w') := Lib.hid fun W hW => by
      have k := sparse_any t1 (by omega) W (HA.out W hW)
      unfold SParseOut at k
      rw [hpb] at k
      exact k
    have HLL := Lib.hid hll
    clear hpb htl hll HB1 HKA HKP
    generalize strOf t1 = S1 at *
    go_upto_region 6 with (go_at_call 10; refine (HKQ.out _ HB3.out).mono ?_; rintro _ w4 ⟨⟨A2, cap2, rfl, hr4⟩, hb4⟩; have HB4 := Lib.hid (grow_to HB3.out hb4); have HX4 := Lib.hid (HX3.out.keep hb4); have HR4 := Lib.hid hr4; clear hb4 hr4)
    have HD5 := Lib.hid (Cells.new w4 23 #[.int .i64 c.ru, .int .i64 c.le, .int .i64 c.re, .int .i64 c.att, .int .i64 c.wi, .int .i64 c.qu, .int .i64 c.bl, .int .i64 c.ev, .int .i64 c.ha])
    have HX5 := Lib.hid (HX4.out.alloc (.cells #[.int .i64 c.ru, .int .i64 c.le, .int .i64 c.re, .int .i64 c.att, .int .i64 c.wi, .int .i64 c.qu, .int .i64 c.bl, .int .i64 c.ev, .int .i64 c.ha] 23))
    have HR5 := Lib.hid (HR4.out.keep ((Below.refl w4.heap.size w4).alloc (Nat.le_refl _) (.cells #[.int .i64 c.ru, .int .i64 c.le, .int .i64 c.re, .int .i64 c.att, .int .i64 c.wi, .int .i64 c.qu, .int .i64 c.bl, .int .i64 c.ev, .int .i64 c.ha] 23)))
    have HB5 := Lib.hid (HB4.out.alloc HB4.out.size (.cells #[.int .i64 c.ru, .int .i64 c.le, .int .i64 c.re, .int .i64 c.att, .int .i64 c.wi, .int .i64 c.qu, .int .i64 c.bl, .int .i64 c.ev, .int .i64 c.ha] 23))
    clear HB3 HX3 HB4 HX4 HR4 HKQ
    generalize w4.alloc (.cells #[.int .i64 c.ru, .int .i64 c.le, .int .i64 c.re, .int .i64 c.att, .int .i64 c.wi, .int .i64 c.qu, .int .i64 c.bl, .int .i64 c.ev, .int .i64 c.ha] 23) = w5 at *
    generalize w4.heap.size = DB at *
    clear w4
    have q0 : w5.cell? ⟨DB, 0, none⟩ = some (.int .i64 c.ru) := HD5.out.cell (j := 0) rfl
    have q1 : w5.cell? ⟨DB, 1, none⟩ = some (.int .i64 c.le) := HD5.out.cell (j := 1) rfl
    have q2 : w5.cell? ⟨DB, 2, none⟩ = some (.int .i64 c.re) := HD5.out.cell (j := 2) rfl
    have q3 : w5.cell? ⟨DB, 3, none⟩ = some (.int .i64 c.att) := HD5.out.cell (j := 3) rfl
    have q4 : w5.cell? ⟨DB, 4, none⟩ = some (.int .i64 c.wi) := HD5.out.cell (j := 4) rfl
    have q5 : w5.cell? ⟨DB, 5, none⟩ = some (.int .i64 c.qu) := HD5.out.cell (j := 5) rfl
    have q6 : w5.cell? ⟨DB, 6, none⟩ = some (.int .i64 c.bl) := HD5.out.cell (j := 6) rfl
    have q7 : w5.cell? ⟨DB, 7, none⟩ = some (.int .i64 c.ev) := HD5.out.cell (j := 7) rfl
    have q8 : w5.cell? ⟨DB, 8, none⟩ = some (.int .i64 c.ha) := HD5.out.cell (j := 8) rfl
    have p0 : w5.cell? ⟨w.heap.size, 0, none⟩ = some (.int .i64 c.ru) := HX5.out.cell (j := 0) rfl
    have p1 : w5.cell? ⟨w.heap.size, 1, none⟩ = some (.int .i64 c.le) := HX5.out.cell (j := 1) rfl
    have p2 : w5.cell? ⟨w.heap.size, 2, none⟩ = some (.int .i64 c.re) := HX5.out.cell (j := 2) rfl
    have p3 : w5.cell? ⟨w.heap.size, 3, none⟩ = some (.int .i64 c.att) := HX5.out.cell (j := 3) rfl
    have p4 : w5.cell? ⟨w.heap.size, 4, none⟩ = some (.int .i64 c.wi) := HX5.out.cell (j := 4) rfl
    have p5 : w5.cell? ⟨w.heap.size, 5, none⟩ = some (.int .i64 c.qu) := HX5.out.cell (j := 5) rfl
    have p6 : w5.cell? ⟨w.heap.size, 6, none⟩ = some (.int .i64 c.bl) := HX5.out.cell (j := 6) rfl
    have p7 : w5.cell? ⟨w.heap.size, 7, none⟩ = some (.int .i64 c.ev) := HX5.out.cell (j := 7) rfl
    have p8 : w5.cell? ⟨w.heap.size, 8, none⟩ = some (.int .i64 c.ha) := HX5.out.cell (j := 8) rfl
    have hq := fun W => cfg_neq c c W
    rw [decide_eq_true rfl] at hq
    have KSM := Lib.hid (show Calls Tryz.prog 12 #[.slice A l.length cap, .slice A2 l.length cap2] w5 fun e w' => e = .returned (.bool true) ∧ Below w5.heap.size w5 w' from by
      have k := ssame_any A A2 l l cap cap2 w5 ((HC.out.keep HB5.out).more HB5.out.size) (HR5.out.steps fun x hx => steps_wf HC.out hx) (by have := HLL.out; omega)
      rw [decide_eq_true rfl] at k
      exact k)
    go_upto_region 8 with (go_at_call 12; refine KSM.out.mono ?_; rintro _ w6 ⟨rfl, hb6⟩; have HB6 := Lib.hid (grow_to HB5.out hb6); clear hb6)
    go_upto_region 9 with (go_at_call 10; refine (HKR.out _ HB6.out).mono ?_; rintro _ w7 ⟨⟨A3, cap3, rfl, hr7⟩, hb7⟩; have HB7 := Lib.hid (grow_to HB6.out hb7); have HR7 := Lib.hid hr7; clear hb7 hr7)
    have HD8 := Lib.hid (Cells.new w7 23 #[.int .i64 d.ru, .int .i64 d.le, .int .i64 d.re, .int .i64 d.att, .int .i64 d.wi, .int .i64 d.qu, .int .i64 d.bl, .int .i64 d.ev, .int .i64 d.ha])
    have HR8 := Lib.hid (HR7.out.keep ((Below.refl w7.heap.size w7).alloc (Nat.le_refl _) (.cells #[.int .i64 d.ru, .int .i64 d.le, .int .i64 d.re, .int .i64 d.att, .int .i64 d.wi, .int .i64 d.qu, .int .i64 d.bl, .int .i64 d.ev, .int .i64 d.ha] 23)))
    have HB8 := Lib.hid (HB7.out.alloc HB7.out.size (.cells #[.int .i64 d.ru, .int .i64 d.le, .int .i64 d.re, .int .i64 d.att, .int .i64 d.wi, .int .i64 d.qu, .int .i64 d.bl, .int .i64 d.ev, .int .i64 d.ha] 23))
    clear HB7 HR7 HKR
    generalize w7.alloc (.cells #[.int .i64 d.ru, .int .i64 d.le, .int .i64 d.re, .int .i64 d.att, .int .i64 d.wi, .int .i64 d.qu, .int .i64 d.bl, .int .i64 d.ev, .int .i64 d.ha] 23) = w8 at *
    generalize w7.heap.size = EB at *
    by_cases h2 : E2 = 0
    · obtain ⟨g1, g2, g3⟩ := HGOOD.out h2
      subst h2
      have e0 : w8.cell? ⟨EB, 0, none⟩ = some (.int .i64 d.ru) := HD8.out.cell (j := 0) rfl
      have e1 : w8.cell? ⟨EB, 1, none⟩ = some (.int .i64 d.le) := HD8.out.cell (j := 1) rfl
      have e2 : w8.cell? ⟨EB, 2, none⟩ = some (.int .i64 d.re) := HD8.out.cell (j := 2) rfl
      have e3 : w8.cell? ⟨EB, 3, none⟩ = some (.int .i64 d.att) := HD8.out.cell (j := 3) rfl
      have e4 : w8.cell? ⟨EB, 4, none⟩ = some (.int .i64 d.wi) := HD8.out.cell (j := 4) rfl
      have e5 : w8.cell? ⟨EB, 5, none⟩ = some (.int .i64 d.qu) := HD8.out.cell (j := 5) rfl
      have e6 : w8.cell? ⟨EB, 6, none⟩ = some (.int .i64 d.bl) := HD8.out.cell (j := 6) rfl
      have e7 : w8.cell? ⟨EB, 7, none⟩ = some (.int .i64 d.ev) := HD8.out.cell (j := 7) rfl
      have e8 : w8.cell? ⟨EB, 8, none⟩ = some (.int .i64 d.ha) := HD8.out.cell (j := 8) rfl
      have KPD : Hid (Calls Tryz.prog 7 #[.agg #[.int .i64 d.ru, .int .i64 d.le, .int .i64 d.re, .int .i64 d.att, .int .i64 d.wi, .int .i64 d.qu, .int .i64 d.bl, .int .i64 d.ev, .int .i64 d.ha], .slice A3 m.length cap3] w8 fun e w' => e = .returned (.tuple #[.string ST, .int .i64 0]) ∧ Below w8.heap.size w8 w') := Lib.hid (by
        have k := sprint_any d g1 A3 m cap3 w8 (HR8.out.steps fun x hx => wf64 (g3 x hx)) (HA.out _ HB8.out)
        rw [g2, HST.out] at k
        exact k)
      clear g1 g2 g3
      go_wp2_with (go_at_call 7; refine KPD.out.mono ?_; rintro _ w9 ⟨rfl, hb9⟩; have HB9 := Lib.hid (grow_to HB8.out hb9); clear hb9)
      go_ret
      exact ⟨by first | rfl | simp, HB9.out⟩
    · have hm := HSAFE.out h2
      subst hm
      have t2 : (E2 == 0) = false := by rw [beq_eq_false_iff_ne]; exact h2
      have t3 : (E2 != 0) = true := by rw [bne_iff_ne]; exact h2
      clear h2
      go_wp2
      go_ret
      exact ⟨by first | rfl | simp, HB8.out⟩
  · have t0 : (E1 == 0) = false := by rw [beq_eq_false_iff_ne]; exact h1
    clear h1 HKA HKP HB1
    go_upto_region 8 with fail
    go_upto_region 9 with (go_at_call 10; refine (HKR.out _ HB3.out).mono ?_; rintro _ w7 ⟨⟨A3, cap3, rfl, hr7⟩, hb7⟩; have HB7 := Lib.hid (grow_to HB3.out hb7); have HR7 := Lib.hid hr7; clear hb7 hr7)
    have HD8 := Lib.hid (Cells.new w7 23 #[.int .i64 d.ru, .int .i64 d.le, .int .i64 d.re, .int .i64 d.att, .int .i64 d.wi, .int .i64 d.qu, .int .i64 d.bl, .int .i64 d.ev, .int .i64 d.ha])
    have HR8 := Lib.hid (HR7.out.keep ((Below.refl w7.heap.size w7).alloc (Nat.le_refl _) (.cells #[.int .i64 d.ru, .int .i64 d.le, .int .i64 d.re, .int .i64 d.att, .int .i64 d.wi, .int .i64 d.qu, .int .i64 d.bl, .int .i64 d.ev, .int .i64 d.ha] 23)))
    have HB8 := Lib.hid (HB7.out.alloc HB7.out.size (.cells #[.int .i64 d.ru, .int .i64 d.le, .int .i64 d.re, .int .i64 d.att, .int .i64 d.wi, .int .i64 d.qu, .int .i64 d.bl, .int .i64 d.ev, .int .i64 d.ha] 23))
    clear HB7 HR7 HKR
    generalize w7.alloc (.cells #[.int .i64 d.ru, .int .i64 d.le, .int .i64 d.re, .int .i64 d.att, .int .i64 d.wi, .int .i64 d.qu, .int .i64 d.bl, .int .i64 d.ev, .int .i64 d.ha] 23) = w8 at *
    generalize w7.heap.size = EB at *
    by_cases h2 : E2 = 0
    · obtain ⟨g1, g2, g3⟩ := HGOOD.out h2
      subst h2
      have e0 : w8.cell? ⟨EB, 0, none⟩ = some (.int .i64 d.ru) := HD8.out.cell (j := 0) rfl
      have e1 : w8.cell? ⟨EB, 1, none⟩ = some (.int .i64 d.le) := HD8.out.cell (j := 1) rfl
      have e2 : w8.cell? ⟨EB, 2, none⟩ = some (.int .i64 d.re) := HD8.out.cell (j := 2) rfl
      have e3 : w8.cell? ⟨EB, 3, none⟩ = some (.int .i64 d.att) := HD8.out.cell (j := 3) rfl
      have e4 : w8.cell? ⟨EB, 4, none⟩ = some (.int .i64 d.wi) := HD8.out.cell (j := 4) rfl
      have e5 : w8.cell? ⟨EB, 5, none⟩ = some (.int .i64 d.qu) := HD8.out.cell (j := 5) rfl
      have e6 : w8.cell? ⟨EB, 6, none⟩ = some (.int .i64 d.bl) := HD8.out.cell (j := 6) rfl
      have e7 : w8.cell? ⟨EB, 7, none⟩ = some (.int .i64 d.ev) := HD8.out.cell (j := 7) rfl
      have e8 : w8.cell? ⟨EB, 8, none⟩ = some (.int .i64 d.ha) := HD8.out.cell (j := 8) rfl
      have KPD : Hid (Calls Tryz.prog 7 #[.agg #[.int .i64 d.ru, .int .i64 d.le, .int .i64 d.re, .int .i64 d.att, .int .i64 d.wi, .int .i64 d.qu, .int .i64 d.bl, .int .i64 d.ev, .int .i64 d.ha], .slice A3 m.length cap3] w8 fun e w' => e = .returned (.tuple #[.string ST, .int .i64 0]) ∧ Below w8.heap.size w8 w') := Lib.hid (by
        have k := sprint_any d g1 A3 m cap3 w8 (HR8.out.steps fun x hx => wf64 (g3 x hx)) (HA.out _ HB8.out)
        rw [g2, HST.out] at k
        exact k)
      clear g1 g2 g3
      go_wp2_with (go_at_call 7; refine KPD.out.mono ?_; rintro _ w9 ⟨rfl, hb9⟩; have HB9 := Lib.hid (grow_to HB8.out hb9); clear hb9)
      go_ret
      exact ⟨by first | rfl | simp, HB9.out⟩
    · have hm := HSAFE.out h2
      subst hm
      have t2 : (E2 == 0) = false := by rw [beq_eq_false_iff_ne]; exact h2
      have t3 : (E2 != 0) = true := by rw [bne_iff_ne]; exact h2
      clear h2
      go_wp2
      go_ret
      exact ⟨by first | rfl | simp, HB8.out⟩

theorem walk2 (c : Cfg) (h64 : ∀ n ∈ c.nums, w64 n) (A : Option Addr) (l : List Stp) (cap : Nat) (s : ByteArray) (hs : s.size < 1048576) (w : World) (hC : StepsIn w w.heap.size A l) (hA : LibAt w) :
    Calls Tryz.prog 5 #[c.val, .slice A l.length cap, .string s] w fun e w' => e = .returned (.bool true) ∧ Below w.heap.size w w' := by
  have k := walk c h64 A l cap s.data.toList (by rw [Array.length_toList]; have : s.data.size < 1048576 := hs; omega) w hC hA
  rw [str_list] at k
  exact k

-- LIFT
set_option maxHeartbeats 8000000 in
set_option maxRecDepth 100000 in
theorem contract (H : Type) (enc : TypeId × Value → H) (W : World) (base : Nat) (args : Array Value) (ds gs : List (DataW H)) (before : List MemPlace)
    (hval : ∀ (j : Nat) t v, Tryz.f5.params[j]? = some t → args[j]? = some v → Value.okWide Tryz.prog W .any base t v)
    (hW : DataW.Whole enc Tryz.prog Tryz.f5.params.toList Rows.scriptBackSpec.vars false W args.toList ds gs before) (hk : Rows.uptoSmall H (ds ++ gs) = true) (hL : laidMetH Tryz.prog Rows.scriptBackUptoRow.laid W) (hSh : W.ShapedOpen Tryz.prog) :
    Calls Tryz.prog 5 args W fun e W' => ∃ v, e = .returned v ∧ Rows.scriptBackSpec.post enc Tryz.prog Tryz.f5 false true false false W args v W' := by
  have hAll := all_of (show laidMetH Tryz.prog laidOf W from hL)
  have hMax : MaxAt W := cell_of_shapedOpen_int hSh (g := 0) (t := 3) (zero := #[.int .i64 0]) (by decide +kernel) (by kernel_rfl) rfl (by kernel_rfl) (by kernel_rfl) Tryz.underlying3
  have hLib : LibAt W := ⟨hAll, hMax⟩
  clear hL
  have hts : Tryz.f5.params.toList.all (fun t => Tryz.prog.readableRec t && decide (t < Tryz.prog.types.size)) = true := by kernel_rfl
  have hW' := hW
  obtain ⟨p, q, hA0, hV, rfl, hfz, hnd⟩ := hW
  have hA : DataW.TrodAll enc Tryz.prog W 0 (fun _ => true) true Tryz.f5.params.toList args.toList ds p := hA0
  rw [Tryz.params5] at hA hval
  obtain ⟨v0, vs0, d0, ds0, p0, q0, hargs, rfl, rfl, h0, r0⟩ := trodAll_cons hA
  obtain ⟨v1, vs1, d1, ds1, p1, q1, rfl, rfl, rfl, h1, r1⟩ := trodAll_cons r0
  obtain ⟨v2, vs2, d2, ds2, p2, q2, rfl, rfl, rfl, h2, r2⟩ := trodAll_cons r1
  obtain ⟨rfl, rfl, rfl⟩ := trodAll_nil r2
  obtain rfl : args = #[v0, v1, v2] := by cases args; simp_all
  obtain ⟨rfl, rfl⟩ := trodVars_none hV
  have hfn : Rows.scriptBackSpec.fn H ([d0, d1, d2] ++ []) = { results := [.lit (.bool true)], args := [d0, d1, d2] } := rfl
  have hfin := fun W' (hbel : Below W.heap.size W W') => law_post (f := Tryz.f5) (s := Rows.scriptBackSpec) 4 Tryz.laid hts rfl Tryz.underlying4 rfl hfn hW' hbel
  clear hA0 hts hfn
  simp only [List.append_nil] at hk
  obtain ⟨cf0, rfl, cw0⟩ := open_cfg (hval 0 23 v0 rfl rfl) h0
  obtain ⟨a01, len1, cap1, rfl⟩ := okWide_slice Tryz.underlying24 (hval 1 24 v1 rfl rfl)
  obtain ⟨fu1, hf1⟩ := h1
  obtain ⟨A1, l1, c1, es1, hC1⟩ := open_steps (c1 := .slice a01 len1 cap1) hf1
  injection es1 with ea1 eb1 ec1
  subst ea1 eb1 ec1
  obtain ⟨s2, rfl, rfl, rfl, w2⟩ := open_string Tryz.underlying9 (hval 2 9 v2 rfl rfl) h2
  have b2 : s2.size < 1048576 := bulk_string (bulk_mem hk _ (by simp))
  exact (walk2 cf0 cw0 a01 l1 cap1 s2 b2 W hC1 hLib).mono fun e W' ⟨he, hg⟩ => ⟨_, he, hfin W' hg⟩

theorem reads (os : Os) {H : Type} (enc : TypeId × Value → H) : ∃ places, DataW.whole enc Tryz.prog ((laidWorld os).forCall (fun _ _ => 0) ⟨#[], #[.agg #[.int .i64 0, .int .i64 0, .int .i64 0, .int .i64 0, .int .i64 0, .int .i64 0, .int .i64 0, .int .i64 0, .int .i64 0], .slice none 0 0, .string ⟨#[]⟩], []⟩).memory Tryz.f5.params.toList Rows.scriptBackSpec.vars false #[.agg #[.int .i64 0, .int .i64 0, .int .i64 0, .int .i64 0, .int .i64 0, .int .i64 0, .int .i64 0, .int .i64 0, .int .i64 0], .slice none 0 0, .string ⟨#[]⟩].toList 8 = some ([.agg [.lit (.int .i64 0), .lit (.int .i64 0), .lit (.int .i64 0), .lit (.int .i64 0), .lit (.int .i64 0), .lit (.int .i64 0), .lit (.int .i64 0), .lit (.int .i64 0), .lit (.int .i64 0)], .nil, .lit (.string [])], [], places) :=
  ⟨[], by kernel_rfl⟩
theorem laid_met (os : Os) : laidMet Tryz.prog Rows.scriptBackUptoRow.laid ((laidWorld os).forCall (fun _ _ => 0) ⟨#[], #[.agg #[.int .i64 0, .int .i64 0, .int .i64 0, .int .i64 0, .int .i64 0, .int .i64 0, .int .i64 0, .int .i64 0, .int .i64 0], .slice none 0 0, .string ⟨#[]⟩], []⟩).memory := laid_here os #[.agg #[.int .i64 0, .int .i64 0, .int .i64 0, .int .i64 0, .int .i64 0, .int .i64 0, .int .i64 0, .int .i64 0, .int .i64 0], .slice none 0 0, .string ⟨#[]⟩]

set_option maxHeartbeats 8000000 in
set_option maxRecDepth 100000 in
theorem lifted (os : Os) (started : os.Started) (H : Type) (enc : TypeId × Value → H) (F : Stop.Interp) :
    ReturnsInHanded {} Tryz.checked os 5 .any ((Rows.OpenSpec.upto Rows.scriptBackSpec).preRow enc Tryz.prog Tryz.f5 Rows.scriptBackUptoRow.domain false Rows.scriptBackUptoRow.laid) (((Rows.OpenSpec.upto Rows.scriptBackSpec).at F).post enc Tryz.prog Tryz.f5 false true false false) := by
  obtain ⟨places, hx⟩ := reads os enc
  refine returnsInHanded_of_row (C := Tryz.checked) (s := Rows.OpenSpec.upto Rows.scriptBackSpec) Tryz.own started (by kernel_rfl) Tryz.func5
    (witness_row_atRef (enc := enc) (C := Tryz.checked) false (laidWorld os) #[.agg #[.int .i64 0, .int .i64 0, .int .i64 0, .int .i64 0, .int .i64 0, .int .i64 0, .int .i64 0, .int .i64 0, .int .i64 0], .slice none 0 0, .string ⟨#[]⟩] rfl (by kernel_rfl) (by kernel_rfl) (by kernel_rfl)
      (OpenSpec.preRow_of_cond 8 hx (by kernel_rfl) (fun k hk => by cases hk; kernel_rfl) (by kernel_rfl) (laid_met os))) ?_
  intro W base args ds gs before hval hW _ hk _ hL hSh _
  exact contract H enc W base args ds gs before hval hW (hk _ rfl) hL hSh

theorem said : Rows.ScriptBackUptoSaid :=
  OpenClaim.holds_of_cond 5 Tryz.f5 rfl rfl rfl rfl rfl rfl rfl ⟨rfl, rfl, rfl, rfl, rfl⟩ rfl rfl rfl rfl rfl (by kernel_rfl) Tryz.func5 (by kernel_rfl)
    (of_decide_eq_true (by kernel_rfl)) (by unfold Func.isWrapper; first | (rw [if_pos (by decide +kernel)]; kernel_rfl) | (rw [if_neg (by decide +kernel)]; exact ⟨rfl, rfl⟩))
    (fun os started H enc _ F => by rw [OpenClaim.pre_eq_preRow]; exact lifted os started H enc F)

theorem plain (f : FuncId) (fn : Func) (hf : Tryz.pinned.checked.prog.funcNamed "gaffer/gafferlaw23.ScriptBack" = some f) (hfn : Tryz.pinned.checked.prog.funcs[f]? = some fn) :
    true = Tryz.pinned.checked.prog.looks [] ∧ ∀ (j : Nat) t, fn.params[j]? = some t → Tryz.pinned.checked.prog.wantsStandIn t = false := by
  obtain rfl : f = 5 := Option.some.inj ((show Tryz.prog.funcNamed "gaffer/gafferlaw23.ScriptBack" = some 5 by kernel_rfl).symm.trans hf) |>.symm
  obtain rfl : fn = Tryz.f5 := (Option.some.inj (Tryz.func5.symm.trans hfn)).symm
  refine ⟨by kernel_rfl, fun j t ht => ?_⟩
  rw [Tryz.params5] at ht
  have hm := Array.mem_of_getElem? ht
  simp only [List.mem_toArray, List.mem_cons, List.not_mem_nil, or_false] at hm
  rcases hm with rfl | rfl | rfl
  · exact (show Tryz.prog.wantsStandIn 23 = false by kernel_rfl)
  · exact (show Tryz.prog.wantsStandIn 24 = false by kernel_rfl)
  · exact (show Tryz.prog.wantsStandIn 9 = false by kernel_rfl)

theorem proved : Rows.ScriptBackUptoCardSaid :=
  Claim7.holds_tied_plain_at .later [] _ _ _ _ said (fun _ h => by cases h) (by kernel_rfl) (fun _ h => by cases h) scriptBackUpto_row_tie rfl ⟨rfl, rfl⟩ (by kernel_rfl) rfl plain (by kernel_rfl)

end Go.Proofs.YtdkencepmdfacaaGreatDoor.scriptBack
