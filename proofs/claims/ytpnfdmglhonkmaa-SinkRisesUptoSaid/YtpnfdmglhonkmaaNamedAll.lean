/- wire.named, the whole walk. -/
import Derived.Test.YtpnfdmglhonkmaaMb
import Derived.Deep.WholeRow
import Derived.Deep.Cut
set_option maxRecDepth 100000
namespace Go.Proofs.Ytpnfdmglhonkmaa
open Go.RowKit
def namedFn (p : Value) (i : Nat) : Value :=
  match i with
  | 115 => .func (.func 73) #[] #[p]
  | 110 => .func (.func 74) #[] #[p]
  | 106 => .func (.func 75) #[] #[p]
  | 98 => .func (.func 76) #[] #[p]
  | 105 => .func (.func 77) #[] #[p]
  | 99 => .func (.func 78) #[] #[p]
  | 114 => .func (.func 79) #[] #[p]
  | 116 => .func (.func 80) #[] #[p]
  | 112 => .func (.func 81) #[] #[p]
  | _ => .nilFunc
def namedRow (p : Value) : Array Value := ((List.range 117).map (namedFn p)).toArray

theorem namedRow_eq (p : Value) : (((((((((Try.zeroCells121.toList.set 115 (.func (.func 73) #[] #[p])).set 110 (.func (.func 74) #[] #[p])).set 106 (.func (.func 75) #[] #[p])).set 98 (.func (.func 76) #[] #[p])).set 105 (.func (.func 77) #[] #[p])).set 99 (.func (.func 78) #[] #[p])).set 114 (.func (.func 79) #[] #[p])).set 116 (.func (.func 80) #[] #[p])).set 112 (.func (.func 81) #[] #[p])) = (namedRow p).toList := by kernel_rfl

theorem namedRow_at (p : Value) : (namedRow p)[115]? = some (.func (.func 73) #[] #[p]) ∧ (namedRow p)[110]? = some (.func (.func 74) #[] #[p]) ∧ (namedRow p)[106]? = some (.func (.func 75) #[] #[p]) ∧ (namedRow p)[98]? = some (.func (.func 76) #[] #[p]) ∧ (namedRow p)[105]? = some (.func (.func 77) #[] #[p]) ∧ (namedRow p)[99]? = some (.func (.func 78) #[] #[p]) ∧ (namedRow p)[114]? = some (.func (.func 79) #[] #[p]) ∧ (namedRow p)[116]? = some (.func (.func 80) #[] #[p]) ∧ (namedRow p)[112]? = some (.func (.func 81) #[] #[p]) :=
  ⟨by kernel_rfl, by kernel_rfl, by kernel_rfl, by kernel_rfl, by kernel_rfl, by kernel_rfl, by kernel_rfl, by kernel_rfl, by kernel_rfl⟩

theorem namedRow_all (p : Value) : (namedRow p).all (·.oneCell') = true := by kernel_rfl
theorem namedRow_size (p : Value) : (namedRow p).size = 117 := by kernel_rfl

theorem namedRow_store (w : World) (n : Nat) (p : Value) (h : n = w.heap.size) : (storeCells ⟨n, 0, none⟩ (namedRow p).toList 0).run Try.prog (w.alloc (.cells Try.zeroCells121 121)) = .ok () (w.alloc (.cells (namedRow p) 121)) := by
  subst h
  exact run_storeCells_new w 121 _ (namedRow p) (by rw [namedRow_size]; kernel_rfl) (by rw [namedRow_size]; kernel_rfl) (namedRow_all p)

theorem wordOf_cell (k : Nat) (hk : k < 17) : (#[.string ⟨#[]⟩, .string ⟨#[]⟩, .string ⟨#[115, 110]⟩, .string ⟨#[115, 110, 98]⟩, .string ⟨#[115, 110, 98, 99, 114]⟩, .string ⟨#[98, 105, 116]⟩, .string ⟨#[106, 98, 105, 116]⟩, .string ⟨#[115]⟩, .string ⟨#[115, 110]⟩, .string ⟨#[115, 110, 106, 98, 112]⟩, .string ⟨#[115, 110]⟩, .string ⟨#[115, 110]⟩, .string ⟨#[115, 110]⟩, .string ⟨#[115, 110]⟩, .string ⟨#[98, 99]⟩, .string ⟨#[106, 98, 99]⟩, .string ⟨#[106, 98]⟩] : Array Value)[k]? = some (.string (str (wordOf k))) := by
  rcases k with _ | _ | _ | _ | _ | _ | _ | _ | _ | _ | _ | _ | _ | _ | _ | _ | _ | k
  case succ => omega
  all_goals rfl

theorem wordOf_mem (k : Nat) (c : UInt8) (h : c ∈ wordOf k) : c = 115 ∨ c = 110 ∨ c = 106 ∨ c = 98 ∨ c = 105 ∨ c = 99 ∨ c = 114 ∨ c = 116 ∨ c = 112 := by
  have hall : ∀ c ∈ wordOf k, ([115, 110, 106, 98, 105, 99, 114, 116, 112] : List UInt8).contains c = true := by
    unfold wordOf
    split <;> decide
  simpa using hall c h
theorem wordOf_len (k : Nat) : (wordOf k).length ≤ 5 := by
  unfold wordOf
  split <;> simp

set_option maxHeartbeats 4000000 in
set_option maxRecDepth 100000 in
theorem named_any (m : Mg) (w : World) (h1 : 1 ≤ m.kind) (h16 : m.kind ≤ 16) :
    Calls Try.prog 46 #[m.val] w fun e w' => e = .returned m.named.val ∧ Below w.heap.size w w' := by
  have hmf : ∀ (fn : Fn) (first cap : Array Value) (w : World), (Instr.makeFunc fn first cap).run Try.prog w = .ok (.func fn first cap) w := fun _ _ _ _ => rfl
  have hst := namedRow_store
  simp only [← namedRow_eq] at hst
  have hi1 : 0 ≤ m.kind := by omega
  have hi2 : m.kind < 17 := by omega
  go_enter Try.func46, Try.ntmps46
  go_upto_region 4 with (fail)
  generalize hW : World.alloc (World.alloc (World.alloc (World.alloc (World.alloc w _) _) _) _) _ = W
  have hm : Ms W w.heap.size m := by
    rw [← hW]
    exact ((((Cells.new w _ _).alloc _).alloc _).alloc _).alloc _
  have hrow : Cells W (w.heap.size + 1 + 1) 121 (namedRow (.pointer (some ⟨w.heap.size, 0, none⟩))) := by
    rw [← hW]
    exact ((Cells.newAt _ _ _ _ (by simp)).alloc _).alloc _
  have hword : W.cell? ⟨w.heap.size + 1 + 1 + 1, m.kind.toNat, none⟩ = some (.string (str (wordOf m.kind.toNat))) := by
    rw [← hW]
    exact ((Cells.newAt _ _ _ _ (by simp)).alloc _).cell (wordOf_cell m.kind.toNat (by omega))
  have hn : Ms W (w.heap.size + 1 + 1 + 1 + 1) (Mg.none m.kind) := by
    rw [← hW]
    exact Cells.newAt _ _ _ _ (by simp)
  have hz : Cells W (w.heap.size + 1) 61 (Mg.none 0).cells := by
    rw [← hW]
    exact (((Cells.newAt _ _ _ _ (by simp)).alloc _).alloc _).alloc _
  have hsz : W.heap.size = w.heap.size + 1 + 1 + 1 + 1 + 1 := by rw [← hW]; simp
  have hbw : Below w.heap.size w W := by
    rw [← hW]
    exact (((((Below.refl _ w).alloc (Nat.le_refl _) _).alloc (by simp) _).alloc (by simp <;> omega) _).alloc (by simp <;> omega) _).alloc (by simp <;> omega) _
  obtain ⟨L, hL⟩ : ∃ L, L = wordOf m.kind.toNat := ⟨_, rfl⟩
  have hmem := wordOf_mem m.kind.toNat
  have hlen := wordOf_len m.kind.toNat
  have hfold : m.named = L.foldl m.with1 (Mg.none m.kind) := by rw [hL]; rfl
  rw [← hL] at hword hmem hlen
  obtain ⟨cap, W2, hcv, hcs, hb2⟩ := run_bytes_of W 9 103 5 (str L) Try.underlying9 Try.underlying103 Try.underlying5
  have hsl : (str L).size = L.length := str_size L
  have kind0 := hm.cell (j := 0) rfl
  have HS := Lib.hid hsz
  have HF := Lib.hid hfold
  have HL := Lib.hid hsl
  have HX := Lib.hid hmem
  have HC := Lib.hid hcs
  clear hW hst hsz hfold hsl hL hmem hcs
  go_wp2_with fail
  rw [HL.out]
  generalize Value.agg (Array.setIfInBounds _ _ _) = v17
  generalize Value.agg #[Value.string _, Value.string _, _, _, _, _, _, _, _, _, _, _, _, _, _, _, _] = v18
  have hm2 : Ms W2 w.heap.size m := hm.keep hb2
  have hrow2 := hrow.keep hb2
  have hn2 : Ms W2 (w.heap.size + 1 + 1 + 1 + 1) (Mg.none m.kind) := hn.keep hb2
  have hz2 := hz.keep hb2
  have hbw2 : Below w.heap.size w W2 := hbw.trans (hb2.mono (by rw [HS.out]; omega))
  clear hm hrow hn hz hbw hword kind0 hcv
  go_loopw [28, 7] (fun i _ wx => ∃ j : Nat, j ≤ L.length ∧ i = .int .i64 (j : Int) ∧ W2.grownBy wx (some (w.heap.size + 1 + 1 + 1 + 1)) ∧ Ms wx (w.heap.size + 1 + 1 + 1 + 1) ((L.take j).foldl m.with1 (Mg.none m.kind))) (fun i _ _ => L.length - (intOf i).toNat)
  case atStart => exact ⟨0, Nat.zero_le _, rfl, only_refl _ _, hn2⟩
  case round =>
    obtain ⟨j, hj, rfl, hg, hnj⟩ := hrel
    by_cases hlt : j < L.length
    · have hcj : wr.cell? ⟨W.heap.size, j, none⟩ = some (.int .u8 ((L[j]).toNat : Int)) := by
        refine cell_grown hg (HC.out j L[j] ?_) ?_
        · show L[j]? = _
          exact List.getElem?_eq_getElem hlt
        · show W.heap.size ≠ _
          rw [HS.out]
          omega
      have hstep : (L.take (j + 1)).foldl m.with1 (Mg.none m.kind) = m.with1 ((L.take j).foldl m.with1 (Mg.none m.kind)) L[j] := by
        rw [List.take_succ_eq_append_getElem hlt, List.foldl_append]
        rfl
      have hcc := HX.out L[j] (List.getElem_mem hlt)
      have hmr : Ms wr w.heap.size m := hm2.grown hg (by intro e; injection e with e; omega)
      have hrr := hrow2.grown hg (by intro e; injection e with e; omega)
      have HST := Lib.hid hstep
      generalize L[j] = c at hcj hcc HST
      generalize (L.take j).foldl m.with1 (Mg.none m.kind) = nj at hnj HST
      clear hstep
      obtain ⟨a115, a110, a106, a98, a105, a99, a114, a116, a112⟩ := namedRow_at (.pointer (some ⟨w.heap.size, 0, none⟩))
      rcases hcc with rfl | rfl | rfl | rfl | rfl | rfl | rfl | rfl | rfl
      · have e0 := hrr.cell a115
        clear a115 a110 a106 a98 a105 a99 a114 a116 a112
        go_wp2_with fail
        refine (named1_any (w.heap.size + 1 + 1 + 1 + 1) w.heap.size m nj _ hmr hnj).mono ?_
        rintro x w1 ⟨rfl, hn1, hg1⟩
        rw [← HST.out] at hn1
        have hg2 := only_trans hg hg1
        clear hg hg1 hnj hmr hrr hcj e0
        go_wp2
        go_roundw
        case rel => exact ⟨j + 1, by omega, by go_num, hg2, hn1⟩
        case measure => simp [intOf]; omega
      · have e0 := hrr.cell a110
        clear a115 a110 a106 a98 a105 a99 a114 a116 a112
        go_wp2_with fail
        refine (named2_any (w.heap.size + 1 + 1 + 1 + 1) w.heap.size m nj _ hmr hnj).mono ?_
        rintro x w1 ⟨rfl, hn1, hg1⟩
        rw [← HST.out] at hn1
        have hg2 := only_trans hg hg1
        clear hg hg1 hnj hmr hrr hcj e0
        go_wp2
        go_roundw
        case rel => exact ⟨j + 1, by omega, by go_num, hg2, hn1⟩
        case measure => simp [intOf]; omega
      · have e0 := hrr.cell a106
        clear a115 a110 a106 a98 a105 a99 a114 a116 a112
        go_wp2_with fail
        refine (named3_any (w.heap.size + 1 + 1 + 1 + 1) w.heap.size m nj _ hmr hnj).mono ?_
        rintro x w1 ⟨rfl, hn1, hg1⟩
        rw [← HST.out] at hn1
        have hg2 := only_trans hg hg1
        clear hg hg1 hnj hmr hrr hcj e0
        go_wp2
        go_roundw
        case rel => exact ⟨j + 1, by omega, by go_num, hg2, hn1⟩
        case measure => simp [intOf]; omega
      · have e0 := hrr.cell a98
        clear a115 a110 a106 a98 a105 a99 a114 a116 a112
        go_wp2_with fail
        refine (named4_any (w.heap.size + 1 + 1 + 1 + 1) w.heap.size m nj _ hmr hnj).mono ?_
        rintro x w1 ⟨rfl, hn1, hg1⟩
        rw [← HST.out] at hn1
        have hg2 := only_trans hg hg1
        clear hg hg1 hnj hmr hrr hcj e0
        go_wp2
        go_roundw
        case rel => exact ⟨j + 1, by omega, by go_num, hg2, hn1⟩
        case measure => simp [intOf]; omega
      · have e0 := hrr.cell a105
        clear a115 a110 a106 a98 a105 a99 a114 a116 a112
        go_wp2_with fail
        refine (named5_any (w.heap.size + 1 + 1 + 1 + 1) w.heap.size m nj _ hmr hnj).mono ?_
        rintro x w1 ⟨rfl, hn1, hg1⟩
        rw [← HST.out] at hn1
        have hg2 := only_trans hg hg1
        clear hg hg1 hnj hmr hrr hcj e0
        go_wp2
        go_roundw
        case rel => exact ⟨j + 1, by omega, by go_num, hg2, hn1⟩
        case measure => simp [intOf]; omega
      · have e0 := hrr.cell a99
        clear a115 a110 a106 a98 a105 a99 a114 a116 a112
        go_wp2_with fail
        refine (named6_any (w.heap.size + 1 + 1 + 1 + 1) w.heap.size m nj _ hmr hnj).mono ?_
        rintro x w1 ⟨rfl, hn1, hg1⟩
        rw [← HST.out] at hn1
        have hg2 := only_trans hg hg1
        clear hg hg1 hnj hmr hrr hcj e0
        go_wp2
        go_roundw
        case rel => exact ⟨j + 1, by omega, by go_num, hg2, hn1⟩
        case measure => simp [intOf]; omega
      · have e0 := hrr.cell a114
        clear a115 a110 a106 a98 a105 a99 a114 a116 a112
        go_wp2_with fail
        refine (named7_any (w.heap.size + 1 + 1 + 1 + 1) w.heap.size m nj _ hmr hnj).mono ?_
        rintro x w1 ⟨rfl, hn1, hg1⟩
        rw [← HST.out] at hn1
        have hg2 := only_trans hg hg1
        clear hg hg1 hnj hmr hrr hcj e0
        go_wp2
        go_roundw
        case rel => exact ⟨j + 1, by omega, by go_num, hg2, hn1⟩
        case measure => simp [intOf]; omega
      · have e0 := hrr.cell a116
        clear a115 a110 a106 a98 a105 a99 a114 a116 a112
        go_wp2_with fail
        refine (named8_any (w.heap.size + 1 + 1 + 1 + 1) w.heap.size m nj _ hmr hnj).mono ?_
        rintro x w1 ⟨rfl, hn1, hg1⟩
        rw [← HST.out] at hn1
        have hg2 := only_trans hg hg1
        clear hg hg1 hnj hmr hrr hcj e0
        go_wp2
        go_roundw
        case rel => exact ⟨j + 1, by omega, by go_num, hg2, hn1⟩
        case measure => simp [intOf]; omega
      · have e0 := hrr.cell a112
        clear a115 a110 a106 a98 a105 a99 a114 a116 a112
        go_wp2_with fail
        refine (named9_any (w.heap.size + 1 + 1 + 1 + 1) w.heap.size m nj _ hmr hnj).mono ?_
        rintro x w1 ⟨rfl, hn1, hg1⟩
        rw [← HST.out] at hn1
        have hg2 := only_trans hg hg1
        clear hg hg1 hnj hmr hrr hcj e0
        go_wp2
        go_roundw
        case rel => exact ⟨j + 1, by omega, by go_num, hg2, hn1⟩
        case measure => simp [intOf]; omega
    · have hjl : j = L.length := by omega
      subst hjl
      rw [List.take_of_length_le (Nat.le_refl _), ← HF.out] at hnj
      have hzr : Cells wr (w.heap.size + 1) 61 (Mg.none 0).cells := hz2.grown hg (by intro e; injection e with e; omega)
      obtain ⟨k0, k1, k2, k3, k4, k5, k6, k7, k8, k9, k10⟩ := hnj.all
      obtain ⟨z0, z1, z2, z3, z4, z5, z6, z7, z8, z9, z10⟩ := Ms.all (m := Mg.none 0) hzr
      have zf := fun j => hzr.fz j
      obtain ⟨M, hM⟩ : ∃ M, M = m.named := ⟨_, rfl⟩
      have HM := Lib.hid hM
      rw [← hM] at k0 k1 k2 k3 k4 k5 k6 k7 k8 k9 k10 hnj
      clear hM
      have hbr := hbw2.trans (below_of_only hg (by omega) hbw2.size)
      go_wp2
      generalize hW3 : World.setCell _ _ _ = W3
      have hfin : Ms W3 (w.heap.size + 1) M := by
        rw [← hW3]
        exact Ms.stored (Z := Mg.none 0) hzr M
      have hb3 : Below w.heap.size w W3 := by
        rw [← hW3]
        repeat (refine Below.setCell ?_ (by simp) _)
        exact hbr
      clear hW3 k0 k1 k2 k3 k4 k5 k6 k7 k8 k9 k10 z0 z1 z2 z3 z4 z5 z6 z7 z8 z9 z10
      obtain ⟨k0, k1, k2, k3, k4, k5, k6, k7, k8, k9, k10⟩ := hfin.all
      rw [← HM.out]
      exact bodyPost_ret (v := M.val) (by simp [results, Try.results46, go_sem, k0, k1, k2, k3, k4, k5, k6, k7, k8, k9, k10]) rfl ⟨rfl, hb3⟩
end Go.Proofs.Ytpnfdmglhonkmaa
