/- coord.Check and the document's Check: may a config be? (contracts) -/
import Derived.Test.YtdkencepmdfacaaGreatDoorGr7
import Derived.Test.YtdkencepmdfacaaGreatDoorGr4
set_option maxRecDepth 100000
namespace Go.Proofs.YtdkencepmdfacaaGreatDoor
open Go.RowKit Ieee

theorem cin_any (n lo hi : Int) (w : World) : Calls Tryz.prog 34 #[.int .i64 n, .int .i64 lo, .int .i64 hi] w fun e w' => e = .returned (.bool (decide (lo ≤ n ∧ n ≤ hi))) ∧ w' = w := by
  by_cases h1 : lo ≤ n
  · by_cases h2 : n ≤ hi
    · rw [decide_eq_true ⟨h1, h2⟩]
      go_enter Tryz.func34, Tryz.ntmps34
      go_wp2
      go_ret
      exact ⟨rfl, rfl⟩
    · rw [decide_eq_false (fun h => h2 h.2)]
      go_enter Tryz.func34, Tryz.ntmps34
      go_wp2
      go_ret
      exact ⟨rfl, rfl⟩
  · rw [decide_eq_false (fun h => h1 h.1)]
    go_enter Tryz.func34, Tryz.ntmps34
    go_wp2
    go_ret
    exact ⟨rfl, rfl⟩
set_option maxHeartbeats 4000000 in
set_option maxRecDepth 100000 in
theorem ccheck_any (c : Cfg) (w : World) : Calls Tryz.prog 13 #[c.val] w fun e w' => e = .returned (.int .i64 (if c.ok then 0 else 180)) ∧ Below w.heap.size w w' := by
  obtain ⟨n0, n1, n2, n3, n4, n5, n6, n7, n8⟩ := c
  have HX := Lib.hid (Cells.new w 23 #[.int .i64 n0, .int .i64 n1, .int .i64 n2, .int .i64 n3, .int .i64 n4, .int .i64 n5, .int .i64 n6, .int .i64 n7, .int .i64 n8])
  have HB := Lib.hid ((Below.refl w.heap.size w).alloc (Nat.le_refl _) (.cells #[.int .i64 n0, .int .i64 n1, .int .i64 n2, .int .i64 n3, .int .i64 n4, .int .i64 n5, .int .i64 n6, .int .i64 n7, .int .i64 n8] 23))
  have HOK : Hid ((⟨n0, n1, n2, n3, n4, n5, n6, n7, n8⟩ : Cfg).ok ↔ ((1 : Int) ≤ n0 ∧ n0 ≤ 8) ∧ ((1 : Int) ≤ n1 ∧ n1 ≤ 256) ∧ ((1 : Int) ≤ n2 ∧ n2 ≤ 16) ∧ ((1 : Int) ≤ n3 ∧ n3 ≤ 8) ∧ ((1 : Int) ≤ n4 ∧ n4 ≤ 8) ∧ ((1 : Int) ≤ n5 ∧ n5 ≤ 64) ∧ ((1 : Int) ≤ n6 ∧ n6 ≤ 16) ∧ ((1 : Int) ≤ n7 ∧ n7 ≤ 16) ∧ ((160 : Int) ≤ n8 ∧ n8 ≤ 512)) := Lib.hid Iff.rfl
  show Calls Tryz.prog 13 #[.agg #[.int .i64 n0, .int .i64 n1, .int .i64 n2, .int .i64 n3, .int .i64 n4, .int .i64 n5, .int .i64 n6, .int .i64 n7, .int .i64 n8]] w _
  by_cases h0 : (1 : Int) ≤ n0 ∧ n0 ≤ 8
  case neg =>
    have d0 : decide ((1 : Int) ≤ n0 ∧ n0 ≤ 8) = false := decide_eq_false h0
    have HN := Lib.hid (show ¬ (⟨n0, n1, n2, n3, n4, n5, n6, n7, n8⟩ : Cfg).ok from fun h => h0 ((HOK.out.1 h).1))
    clear h0
    rw [if_neg HN.out]
    go_enter Tryz.func13, Tryz.ntmps13
    go_upto_region 1 with fail
    generalize w.alloc (.cells #[.int .i64 n0, .int .i64 n1, .int .i64 n2, .int .i64 n3, .int .i64 n4, .int .i64 n5, .int .i64 n6, .int .i64 n7, .int .i64 n8] 23) = w1 at *
    have c0 : w1.cell? ⟨w.heap.size, 0, none⟩ = some (.int .i64 n0) := HX.out.cell (j := 0) rfl
    have c1 : w1.cell? ⟨w.heap.size, 1, none⟩ = some (.int .i64 n1) := HX.out.cell (j := 1) rfl
    have c2 : w1.cell? ⟨w.heap.size, 2, none⟩ = some (.int .i64 n2) := HX.out.cell (j := 2) rfl
    have c3 : w1.cell? ⟨w.heap.size, 3, none⟩ = some (.int .i64 n3) := HX.out.cell (j := 3) rfl
    have c4 : w1.cell? ⟨w.heap.size, 4, none⟩ = some (.int .i64 n4) := HX.out.cell (j := 4) rfl
    have c5 : w1.cell? ⟨w.heap.size, 5, none⟩ = some (.int .i64 n5) := HX.out.cell (j := 5) rfl
    have c6 : w1.cell? ⟨w.heap.size, 6, none⟩ = some (.int .i64 n6) := HX.out.cell (j := 6) rfl
    have c7 : w1.cell? ⟨w.heap.size, 7, none⟩ = some (.int .i64 n7) := HX.out.cell (j := 7) rfl
    have c8 : w1.cell? ⟨w.heap.size, 8, none⟩ = some (.int .i64 n8) := HX.out.cell (j := 8) rfl
    clear HX
    go_wp2_with (go_at_call 34; refine (cin_any _ _ _ _).mono ?_; rintro _ _ ⟨rfl, rfl⟩)
    go_ret
    exact ⟨rfl, HB.out⟩
  have d0 : decide ((1 : Int) ≤ n0 ∧ n0 ≤ 8) = true := decide_eq_true h0
  by_cases h1 : (1 : Int) ≤ n1 ∧ n1 ≤ 256
  case neg =>
    have d1 : decide ((1 : Int) ≤ n1 ∧ n1 ≤ 256) = false := decide_eq_false h1
    have HN := Lib.hid (show ¬ (⟨n0, n1, n2, n3, n4, n5, n6, n7, n8⟩ : Cfg).ok from fun h => h1 ((HOK.out.1 h).2.1))
    clear h0 h1
    rw [if_neg HN.out]
    go_enter Tryz.func13, Tryz.ntmps13
    go_upto_region 1 with fail
    generalize w.alloc (.cells #[.int .i64 n0, .int .i64 n1, .int .i64 n2, .int .i64 n3, .int .i64 n4, .int .i64 n5, .int .i64 n6, .int .i64 n7, .int .i64 n8] 23) = w1 at *
    have c0 : w1.cell? ⟨w.heap.size, 0, none⟩ = some (.int .i64 n0) := HX.out.cell (j := 0) rfl
    have c1 : w1.cell? ⟨w.heap.size, 1, none⟩ = some (.int .i64 n1) := HX.out.cell (j := 1) rfl
    have c2 : w1.cell? ⟨w.heap.size, 2, none⟩ = some (.int .i64 n2) := HX.out.cell (j := 2) rfl
    have c3 : w1.cell? ⟨w.heap.size, 3, none⟩ = some (.int .i64 n3) := HX.out.cell (j := 3) rfl
    have c4 : w1.cell? ⟨w.heap.size, 4, none⟩ = some (.int .i64 n4) := HX.out.cell (j := 4) rfl
    have c5 : w1.cell? ⟨w.heap.size, 5, none⟩ = some (.int .i64 n5) := HX.out.cell (j := 5) rfl
    have c6 : w1.cell? ⟨w.heap.size, 6, none⟩ = some (.int .i64 n6) := HX.out.cell (j := 6) rfl
    have c7 : w1.cell? ⟨w.heap.size, 7, none⟩ = some (.int .i64 n7) := HX.out.cell (j := 7) rfl
    have c8 : w1.cell? ⟨w.heap.size, 8, none⟩ = some (.int .i64 n8) := HX.out.cell (j := 8) rfl
    clear HX
    go_wp2_with (go_at_call 34; refine (cin_any _ _ _ _).mono ?_; rintro _ _ ⟨rfl, rfl⟩)
    go_ret
    exact ⟨rfl, HB.out⟩
  have d1 : decide ((1 : Int) ≤ n1 ∧ n1 ≤ 256) = true := decide_eq_true h1
  by_cases h2 : (1 : Int) ≤ n2 ∧ n2 ≤ 16
  case neg =>
    have d2 : decide ((1 : Int) ≤ n2 ∧ n2 ≤ 16) = false := decide_eq_false h2
    have HN := Lib.hid (show ¬ (⟨n0, n1, n2, n3, n4, n5, n6, n7, n8⟩ : Cfg).ok from fun h => h2 ((HOK.out.1 h).2.2.1))
    clear h0 h1 h2
    rw [if_neg HN.out]
    go_enter Tryz.func13, Tryz.ntmps13
    go_upto_region 1 with fail
    generalize w.alloc (.cells #[.int .i64 n0, .int .i64 n1, .int .i64 n2, .int .i64 n3, .int .i64 n4, .int .i64 n5, .int .i64 n6, .int .i64 n7, .int .i64 n8] 23) = w1 at *
    have c0 : w1.cell? ⟨w.heap.size, 0, none⟩ = some (.int .i64 n0) := HX.out.cell (j := 0) rfl
    have c1 : w1.cell? ⟨w.heap.size, 1, none⟩ = some (.int .i64 n1) := HX.out.cell (j := 1) rfl
    have c2 : w1.cell? ⟨w.heap.size, 2, none⟩ = some (.int .i64 n2) := HX.out.cell (j := 2) rfl
    have c3 : w1.cell? ⟨w.heap.size, 3, none⟩ = some (.int .i64 n3) := HX.out.cell (j := 3) rfl
    have c4 : w1.cell? ⟨w.heap.size, 4, none⟩ = some (.int .i64 n4) := HX.out.cell (j := 4) rfl
    have c5 : w1.cell? ⟨w.heap.size, 5, none⟩ = some (.int .i64 n5) := HX.out.cell (j := 5) rfl
    have c6 : w1.cell? ⟨w.heap.size, 6, none⟩ = some (.int .i64 n6) := HX.out.cell (j := 6) rfl
    have c7 : w1.cell? ⟨w.heap.size, 7, none⟩ = some (.int .i64 n7) := HX.out.cell (j := 7) rfl
    have c8 : w1.cell? ⟨w.heap.size, 8, none⟩ = some (.int .i64 n8) := HX.out.cell (j := 8) rfl
    clear HX
    go_wp2_with (go_at_call 34; refine (cin_any _ _ _ _).mono ?_; rintro _ _ ⟨rfl, rfl⟩)
    go_ret
    exact ⟨rfl, HB.out⟩
  have d2 : decide ((1 : Int) ≤ n2 ∧ n2 ≤ 16) = true := decide_eq_true h2
  by_cases h3 : (1 : Int) ≤ n3 ∧ n3 ≤ 8
  case neg =>
    have d3 : decide ((1 : Int) ≤ n3 ∧ n3 ≤ 8) = false := decide_eq_false h3
    have HN := Lib.hid (show ¬ (⟨n0, n1, n2, n3, n4, n5, n6, n7, n8⟩ : Cfg).ok from fun h => h3 ((HOK.out.1 h).2.2.2.1))
    clear h0 h1 h2 h3
    rw [if_neg HN.out]
    go_enter Tryz.func13, Tryz.ntmps13
    go_upto_region 1 with fail
    generalize w.alloc (.cells #[.int .i64 n0, .int .i64 n1, .int .i64 n2, .int .i64 n3, .int .i64 n4, .int .i64 n5, .int .i64 n6, .int .i64 n7, .int .i64 n8] 23) = w1 at *
    have c0 : w1.cell? ⟨w.heap.size, 0, none⟩ = some (.int .i64 n0) := HX.out.cell (j := 0) rfl
    have c1 : w1.cell? ⟨w.heap.size, 1, none⟩ = some (.int .i64 n1) := HX.out.cell (j := 1) rfl
    have c2 : w1.cell? ⟨w.heap.size, 2, none⟩ = some (.int .i64 n2) := HX.out.cell (j := 2) rfl
    have c3 : w1.cell? ⟨w.heap.size, 3, none⟩ = some (.int .i64 n3) := HX.out.cell (j := 3) rfl
    have c4 : w1.cell? ⟨w.heap.size, 4, none⟩ = some (.int .i64 n4) := HX.out.cell (j := 4) rfl
    have c5 : w1.cell? ⟨w.heap.size, 5, none⟩ = some (.int .i64 n5) := HX.out.cell (j := 5) rfl
    have c6 : w1.cell? ⟨w.heap.size, 6, none⟩ = some (.int .i64 n6) := HX.out.cell (j := 6) rfl
    have c7 : w1.cell? ⟨w.heap.size, 7, none⟩ = some (.int .i64 n7) := HX.out.cell (j := 7) rfl
    have c8 : w1.cell? ⟨w.heap.size, 8, none⟩ = some (.int .i64 n8) := HX.out.cell (j := 8) rfl
    clear HX
    go_wp2_with (go_at_call 34; refine (cin_any _ _ _ _).mono ?_; rintro _ _ ⟨rfl, rfl⟩)
    go_ret
    exact ⟨rfl, HB.out⟩
  have d3 : decide ((1 : Int) ≤ n3 ∧ n3 ≤ 8) = true := decide_eq_true h3
  by_cases h4 : (1 : Int) ≤ n4 ∧ n4 ≤ 8
  case neg =>
    have d4 : decide ((1 : Int) ≤ n4 ∧ n4 ≤ 8) = false := decide_eq_false h4
    have HN := Lib.hid (show ¬ (⟨n0, n1, n2, n3, n4, n5, n6, n7, n8⟩ : Cfg).ok from fun h => h4 ((HOK.out.1 h).2.2.2.2.1))
    clear h0 h1 h2 h3 h4
    rw [if_neg HN.out]
    go_enter Tryz.func13, Tryz.ntmps13
    go_upto_region 1 with fail
    generalize w.alloc (.cells #[.int .i64 n0, .int .i64 n1, .int .i64 n2, .int .i64 n3, .int .i64 n4, .int .i64 n5, .int .i64 n6, .int .i64 n7, .int .i64 n8] 23) = w1 at *
    have c0 : w1.cell? ⟨w.heap.size, 0, none⟩ = some (.int .i64 n0) := HX.out.cell (j := 0) rfl
    have c1 : w1.cell? ⟨w.heap.size, 1, none⟩ = some (.int .i64 n1) := HX.out.cell (j := 1) rfl
    have c2 : w1.cell? ⟨w.heap.size, 2, none⟩ = some (.int .i64 n2) := HX.out.cell (j := 2) rfl
    have c3 : w1.cell? ⟨w.heap.size, 3, none⟩ = some (.int .i64 n3) := HX.out.cell (j := 3) rfl
    have c4 : w1.cell? ⟨w.heap.size, 4, none⟩ = some (.int .i64 n4) := HX.out.cell (j := 4) rfl
    have c5 : w1.cell? ⟨w.heap.size, 5, none⟩ = some (.int .i64 n5) := HX.out.cell (j := 5) rfl
    have c6 : w1.cell? ⟨w.heap.size, 6, none⟩ = some (.int .i64 n6) := HX.out.cell (j := 6) rfl
    have c7 : w1.cell? ⟨w.heap.size, 7, none⟩ = some (.int .i64 n7) := HX.out.cell (j := 7) rfl
    have c8 : w1.cell? ⟨w.heap.size, 8, none⟩ = some (.int .i64 n8) := HX.out.cell (j := 8) rfl
    clear HX
    go_wp2_with (go_at_call 34; refine (cin_any _ _ _ _).mono ?_; rintro _ _ ⟨rfl, rfl⟩)
    go_ret
    exact ⟨rfl, HB.out⟩
  have d4 : decide ((1 : Int) ≤ n4 ∧ n4 ≤ 8) = true := decide_eq_true h4
  by_cases h5 : (1 : Int) ≤ n5 ∧ n5 ≤ 64
  case neg =>
    have d5 : decide ((1 : Int) ≤ n5 ∧ n5 ≤ 64) = false := decide_eq_false h5
    have HN := Lib.hid (show ¬ (⟨n0, n1, n2, n3, n4, n5, n6, n7, n8⟩ : Cfg).ok from fun h => h5 ((HOK.out.1 h).2.2.2.2.2.1))
    clear h0 h1 h2 h3 h4 h5
    rw [if_neg HN.out]
    go_enter Tryz.func13, Tryz.ntmps13
    go_upto_region 1 with fail
    generalize w.alloc (.cells #[.int .i64 n0, .int .i64 n1, .int .i64 n2, .int .i64 n3, .int .i64 n4, .int .i64 n5, .int .i64 n6, .int .i64 n7, .int .i64 n8] 23) = w1 at *
    have c0 : w1.cell? ⟨w.heap.size, 0, none⟩ = some (.int .i64 n0) := HX.out.cell (j := 0) rfl
    have c1 : w1.cell? ⟨w.heap.size, 1, none⟩ = some (.int .i64 n1) := HX.out.cell (j := 1) rfl
    have c2 : w1.cell? ⟨w.heap.size, 2, none⟩ = some (.int .i64 n2) := HX.out.cell (j := 2) rfl
    have c3 : w1.cell? ⟨w.heap.size, 3, none⟩ = some (.int .i64 n3) := HX.out.cell (j := 3) rfl
    have c4 : w1.cell? ⟨w.heap.size, 4, none⟩ = some (.int .i64 n4) := HX.out.cell (j := 4) rfl
    have c5 : w1.cell? ⟨w.heap.size, 5, none⟩ = some (.int .i64 n5) := HX.out.cell (j := 5) rfl
    have c6 : w1.cell? ⟨w.heap.size, 6, none⟩ = some (.int .i64 n6) := HX.out.cell (j := 6) rfl
    have c7 : w1.cell? ⟨w.heap.size, 7, none⟩ = some (.int .i64 n7) := HX.out.cell (j := 7) rfl
    have c8 : w1.cell? ⟨w.heap.size, 8, none⟩ = some (.int .i64 n8) := HX.out.cell (j := 8) rfl
    clear HX
    go_wp2_with (go_at_call 34; refine (cin_any _ _ _ _).mono ?_; rintro _ _ ⟨rfl, rfl⟩)
    go_ret
    exact ⟨rfl, HB.out⟩
  have d5 : decide ((1 : Int) ≤ n5 ∧ n5 ≤ 64) = true := decide_eq_true h5
  by_cases h6 : (1 : Int) ≤ n6 ∧ n6 ≤ 16
  case neg =>
    have d6 : decide ((1 : Int) ≤ n6 ∧ n6 ≤ 16) = false := decide_eq_false h6
    have HN := Lib.hid (show ¬ (⟨n0, n1, n2, n3, n4, n5, n6, n7, n8⟩ : Cfg).ok from fun h => h6 ((HOK.out.1 h).2.2.2.2.2.2.1))
    clear h0 h1 h2 h3 h4 h5 h6
    rw [if_neg HN.out]
    go_enter Tryz.func13, Tryz.ntmps13
    go_upto_region 1 with fail
    generalize w.alloc (.cells #[.int .i64 n0, .int .i64 n1, .int .i64 n2, .int .i64 n3, .int .i64 n4, .int .i64 n5, .int .i64 n6, .int .i64 n7, .int .i64 n8] 23) = w1 at *
    have c0 : w1.cell? ⟨w.heap.size, 0, none⟩ = some (.int .i64 n0) := HX.out.cell (j := 0) rfl
    have c1 : w1.cell? ⟨w.heap.size, 1, none⟩ = some (.int .i64 n1) := HX.out.cell (j := 1) rfl
    have c2 : w1.cell? ⟨w.heap.size, 2, none⟩ = some (.int .i64 n2) := HX.out.cell (j := 2) rfl
    have c3 : w1.cell? ⟨w.heap.size, 3, none⟩ = some (.int .i64 n3) := HX.out.cell (j := 3) rfl
    have c4 : w1.cell? ⟨w.heap.size, 4, none⟩ = some (.int .i64 n4) := HX.out.cell (j := 4) rfl
    have c5 : w1.cell? ⟨w.heap.size, 5, none⟩ = some (.int .i64 n5) := HX.out.cell (j := 5) rfl
    have c6 : w1.cell? ⟨w.heap.size, 6, none⟩ = some (.int .i64 n6) := HX.out.cell (j := 6) rfl
    have c7 : w1.cell? ⟨w.heap.size, 7, none⟩ = some (.int .i64 n7) := HX.out.cell (j := 7) rfl
    have c8 : w1.cell? ⟨w.heap.size, 8, none⟩ = some (.int .i64 n8) := HX.out.cell (j := 8) rfl
    clear HX
    go_wp2_with (go_at_call 34; refine (cin_any _ _ _ _).mono ?_; rintro _ _ ⟨rfl, rfl⟩)
    go_ret
    exact ⟨rfl, HB.out⟩
  have d6 : decide ((1 : Int) ≤ n6 ∧ n6 ≤ 16) = true := decide_eq_true h6
  by_cases h7 : (1 : Int) ≤ n7 ∧ n7 ≤ 16
  case neg =>
    have d7 : decide ((1 : Int) ≤ n7 ∧ n7 ≤ 16) = false := decide_eq_false h7
    have HN := Lib.hid (show ¬ (⟨n0, n1, n2, n3, n4, n5, n6, n7, n8⟩ : Cfg).ok from fun h => h7 ((HOK.out.1 h).2.2.2.2.2.2.2.1))
    clear h0 h1 h2 h3 h4 h5 h6 h7
    rw [if_neg HN.out]
    go_enter Tryz.func13, Tryz.ntmps13
    go_upto_region 1 with fail
    generalize w.alloc (.cells #[.int .i64 n0, .int .i64 n1, .int .i64 n2, .int .i64 n3, .int .i64 n4, .int .i64 n5, .int .i64 n6, .int .i64 n7, .int .i64 n8] 23) = w1 at *
    have c0 : w1.cell? ⟨w.heap.size, 0, none⟩ = some (.int .i64 n0) := HX.out.cell (j := 0) rfl
    have c1 : w1.cell? ⟨w.heap.size, 1, none⟩ = some (.int .i64 n1) := HX.out.cell (j := 1) rfl
    have c2 : w1.cell? ⟨w.heap.size, 2, none⟩ = some (.int .i64 n2) := HX.out.cell (j := 2) rfl
    have c3 : w1.cell? ⟨w.heap.size, 3, none⟩ = some (.int .i64 n3) := HX.out.cell (j := 3) rfl
    have c4 : w1.cell? ⟨w.heap.size, 4, none⟩ = some (.int .i64 n4) := HX.out.cell (j := 4) rfl
    have c5 : w1.cell? ⟨w.heap.size, 5, none⟩ = some (.int .i64 n5) := HX.out.cell (j := 5) rfl
    have c6 : w1.cell? ⟨w.heap.size, 6, none⟩ = some (.int .i64 n6) := HX.out.cell (j := 6) rfl
    have c7 : w1.cell? ⟨w.heap.size, 7, none⟩ = some (.int .i64 n7) := HX.out.cell (j := 7) rfl
    have c8 : w1.cell? ⟨w.heap.size, 8, none⟩ = some (.int .i64 n8) := HX.out.cell (j := 8) rfl
    clear HX
    go_wp2_with (go_at_call 34; refine (cin_any _ _ _ _).mono ?_; rintro _ _ ⟨rfl, rfl⟩)
    go_ret
    exact ⟨rfl, HB.out⟩
  have d7 : decide ((1 : Int) ≤ n7 ∧ n7 ≤ 16) = true := decide_eq_true h7
  by_cases h8 : (160 : Int) ≤ n8 ∧ n8 ≤ 512
  case neg =>
    have d8 : decide ((160 : Int) ≤ n8 ∧ n8 ≤ 512) = false := decide_eq_false h8
    have HN := Lib.hid (show ¬ (⟨n0, n1, n2, n3, n4, n5, n6, n7, n8⟩ : Cfg).ok from fun h => h8 ((HOK.out.1 h).2.2.2.2.2.2.2.2))
    clear h0 h1 h2 h3 h4 h5 h6 h7 h8
    rw [if_neg HN.out]
    go_enter Tryz.func13, Tryz.ntmps13
    go_upto_region 1 with fail
    generalize w.alloc (.cells #[.int .i64 n0, .int .i64 n1, .int .i64 n2, .int .i64 n3, .int .i64 n4, .int .i64 n5, .int .i64 n6, .int .i64 n7, .int .i64 n8] 23) = w1 at *
    have c0 : w1.cell? ⟨w.heap.size, 0, none⟩ = some (.int .i64 n0) := HX.out.cell (j := 0) rfl
    have c1 : w1.cell? ⟨w.heap.size, 1, none⟩ = some (.int .i64 n1) := HX.out.cell (j := 1) rfl
    have c2 : w1.cell? ⟨w.heap.size, 2, none⟩ = some (.int .i64 n2) := HX.out.cell (j := 2) rfl
    have c3 : w1.cell? ⟨w.heap.size, 3, none⟩ = some (.int .i64 n3) := HX.out.cell (j := 3) rfl
    have c4 : w1.cell? ⟨w.heap.size, 4, none⟩ = some (.int .i64 n4) := HX.out.cell (j := 4) rfl
    have c5 : w1.cell? ⟨w.heap.size, 5, none⟩ = some (.int .i64 n5) := HX.out.cell (j := 5) rfl
    have c6 : w1.cell? ⟨w.heap.size, 6, none⟩ = some (.int .i64 n6) := HX.out.cell (j := 6) rfl
    have c7 : w1.cell? ⟨w.heap.size, 7, none⟩ = some (.int .i64 n7) := HX.out.cell (j := 7) rfl
    have c8 : w1.cell? ⟨w.heap.size, 8, none⟩ = some (.int .i64 n8) := HX.out.cell (j := 8) rfl
    clear HX
    go_wp2_with (go_at_call 34; refine (cin_any _ _ _ _).mono ?_; rintro _ _ ⟨rfl, rfl⟩)
    go_ret
    exact ⟨rfl, HB.out⟩
  have d8 : decide ((160 : Int) ≤ n8 ∧ n8 ≤ 512) = true := decide_eq_true h8
  have HY := Lib.hid (show (⟨n0, n1, n2, n3, n4, n5, n6, n7, n8⟩ : Cfg).ok from HOK.out.2 ⟨h0, h1, h2, h3, h4, h5, h6, h7, h8⟩)
  clear h0 h1 h2 h3 h4 h5 h6 h7 h8
  rw [if_pos HY.out]
  go_enter Tryz.func13, Tryz.ntmps13
  go_upto_region 1 with fail
  generalize w.alloc (.cells #[.int .i64 n0, .int .i64 n1, .int .i64 n2, .int .i64 n3, .int .i64 n4, .int .i64 n5, .int .i64 n6, .int .i64 n7, .int .i64 n8] 23) = w1 at *
  have c0 : w1.cell? ⟨w.heap.size, 0, none⟩ = some (.int .i64 n0) := HX.out.cell (j := 0) rfl
  have c1 : w1.cell? ⟨w.heap.size, 1, none⟩ = some (.int .i64 n1) := HX.out.cell (j := 1) rfl
  have c2 : w1.cell? ⟨w.heap.size, 2, none⟩ = some (.int .i64 n2) := HX.out.cell (j := 2) rfl
  have c3 : w1.cell? ⟨w.heap.size, 3, none⟩ = some (.int .i64 n3) := HX.out.cell (j := 3) rfl
  have c4 : w1.cell? ⟨w.heap.size, 4, none⟩ = some (.int .i64 n4) := HX.out.cell (j := 4) rfl
  have c5 : w1.cell? ⟨w.heap.size, 5, none⟩ = some (.int .i64 n5) := HX.out.cell (j := 5) rfl
  have c6 : w1.cell? ⟨w.heap.size, 6, none⟩ = some (.int .i64 n6) := HX.out.cell (j := 6) rfl
  have c7 : w1.cell? ⟨w.heap.size, 7, none⟩ = some (.int .i64 n7) := HX.out.cell (j := 7) rfl
  have c8 : w1.cell? ⟨w.heap.size, 8, none⟩ = some (.int .i64 n8) := HX.out.cell (j := 8) rfl
  clear HX
  go_wp2_with (go_at_call 34; refine (cin_any _ _ _ _).mono ?_; rintro _ _ ⟨rfl, rfl⟩)
  go_ret
  exact ⟨rfl, HB.out⟩
end Go.Proofs.YtdkencepmdfacaaGreatDoor
