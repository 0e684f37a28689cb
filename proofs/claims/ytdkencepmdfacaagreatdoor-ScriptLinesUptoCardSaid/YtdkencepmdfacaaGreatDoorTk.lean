/- script.head (contract). -/
import Derived.RangeFuncBox
import Derived.BigRegion
import Derived.Deep.RegionHeld3
import Derived.Test.YtdkencepmdfacaaGreatDoorGr12
import Derived.Test.YtdkencepmdfacaaGreatDoorTa
import Derived.Test.YtdkencepmdfacaaGreatDoorGr9
import Derived.Test.YtdkencepmdfacaaGreatDoorPe
set_option maxRecDepth 100000
namespace Go.Proofs.YtdkencepmdfacaaGreatDoor
open Go.RowKit Ieee

theorem cfg_size : (Tryz.prog.info? 23).map (·.size) = some 9 := by kernel_rfl
theorem ret_cfg {fn : Func} {R : Ending → World → Prop} {a : Act} {w : World} (h : fn.results = #[.cell 2 23, .tmp 3]) {g : Nat} {c : Cfg} {x : Value}
    (hp : a.tmps.getD 2 undef = .pointer (some ⟨g, 0, none⟩)) (hx : a.tmps.getD 3 undef = x) (hg : Cells w g 23 #[.int .i64 c.ru, .int .i64 c.le, .int .i64 c.re, .int .i64 c.att, .int .i64 c.wi, .int .i64 c.qu, .int .i64 c.bl, .int .i64 c.ev, .int .i64 c.ha]) (hdef : a.defers = []) (hR : R (.returned (.tuple #[c.val, x])) w) : bodyPost Tryz.prog fn R .ret a w :=
  ret_cell_tmp h hp hx hg Tryz.underlying23 rfl cfg_size hdef hR
theorem cfgOf_len {l : List Int} (h : l.length ≠ 9) : cfgOf l = none := by
  unfold cfgOf
  split
  · simp at h
  · rfl
theorem cfgOf_nine {l : List Int} (h : l.length = 9) : ∃ c, cfgOf l = some c ∧ c.nums = l := by
  match l, h with
  | [a, b, c, d, e, f, g, i, j], _ => exact ⟨_, rfl, rfl⟩

theorem set9_cells {w : World} {g : Nat} {t : TypeId} {a b c d e f h i j a' b' c' d' e' f' h' i' j' : Value} (hc : Cells w g t #[a', b', c', d', e', f', h', i', j']) :
    Cells (((((((((w.setCell ⟨g, 0, none⟩ a).setCell ⟨g, 1, none⟩ b).setCell ⟨g, 2, none⟩ c).setCell ⟨g, 3, none⟩ d).setCell ⟨g, 4, none⟩ e).setCell ⟨g, 5, none⟩ f).setCell ⟨g, 6, none⟩ h).setCell ⟨g, 7, none⟩ i).setCell ⟨g, 8, none⟩ j) g t #[a, b, c, d, e, f, h, i, j] := by
  have q0 : Cells (w.setCell ⟨g, 0, none⟩ a) g t #[a, b', c', d', e', f', h', i', j'] := hc.set 0 a
  have q1 : Cells ((w.setCell ⟨g, 0, none⟩ a).setCell ⟨g, 1, none⟩ b) g t #[a, b, c', d', e', f', h', i', j'] := q0.set 1 b
  have q2 : Cells (((w.setCell ⟨g, 0, none⟩ a).setCell ⟨g, 1, none⟩ b).setCell ⟨g, 2, none⟩ c) g t #[a, b, c, d', e', f', h', i', j'] := q1.set 2 c
  have q3 : Cells ((((w.setCell ⟨g, 0, none⟩ a).setCell ⟨g, 1, none⟩ b).setCell ⟨g, 2, none⟩ c).setCell ⟨g, 3, none⟩ d) g t #[a, b, c, d, e', f', h', i', j'] := q2.set 3 d
  have q4 : Cells (((((w.setCell ⟨g, 0, none⟩ a).setCell ⟨g, 1, none⟩ b).setCell ⟨g, 2, none⟩ c).setCell ⟨g, 3, none⟩ d).setCell ⟨g, 4, none⟩ e) g t #[a, b, c, d, e, f', h', i', j'] := q3.set 4 e
  have q5 : Cells ((((((w.setCell ⟨g, 0, none⟩ a).setCell ⟨g, 1, none⟩ b).setCell ⟨g, 2, none⟩ c).setCell ⟨g, 3, none⟩ d).setCell ⟨g, 4, none⟩ e).setCell ⟨g, 5, none⟩ f) g t #[a, b, c, d, e, f, h', i', j'] := q4.set 5 f
  have q6 : Cells (((((((w.setCell ⟨g, 0, none⟩ a).setCell ⟨g, 1, none⟩ b).setCell ⟨g, 2, none⟩ c).setCell ⟨g, 3, none⟩ d).setCell ⟨g, 4, none⟩ e).setCell ⟨g, 5, none⟩ f).setCell ⟨g, 6, none⟩ h) g t #[a, b, c, d, e, f, h, i', j'] := q5.set 6 h
  have q7 : Cells ((((((((w.setCell ⟨g, 0, none⟩ a).setCell ⟨g, 1, none⟩ b).setCell ⟨g, 2, none⟩ c).setCell ⟨g, 3, none⟩ d).setCell ⟨g, 4, none⟩ e).setCell ⟨g, 5, none⟩ f).setCell ⟨g, 6, none⟩ h).setCell ⟨g, 7, none⟩ i) g t #[a, b, c, d, e, f, h, i, j'] := q6.set 7 i
  have q8 : Cells (((((((((w.setCell ⟨g, 0, none⟩ a).setCell ⟨g, 1, none⟩ b).setCell ⟨g, 2, none⟩ c).setCell ⟨g, 3, none⟩ d).setCell ⟨g, 4, none⟩ e).setCell ⟨g, 5, none⟩ f).setCell ⟨g, 6, none⟩ h).setCell ⟨g, 7, none⟩ i).setCell ⟨g, 8, none⟩ j) g t #[a, b, c, d, e, f, h, i, j] := q7.set 8 j
  exact q8
theorem set9_below {w0 w : World} {k g : Nat} {a b c d e f h i j : Value} (hb : Below k w0 w) (hg : k ≤ g) :
    Below k w0 (((((((((w.setCell ⟨g, 0, none⟩ a).setCell ⟨g, 1, none⟩ b).setCell ⟨g, 2, none⟩ c).setCell ⟨g, 3, none⟩ d).setCell ⟨g, 4, none⟩ e).setCell ⟨g, 5, none⟩ f).setCell ⟨g, 6, none⟩ h).setCell ⟨g, 7, none⟩ i).setCell ⟨g, 8, none⟩ j) := ((((((((hb.setCell hg a).setCell hg b).setCell hg c).setCell hg d).setCell hg e).setCell hg f).setCell hg h).setCell hg i).setCell hg j
theorem Cells.far9 {w : World} {g1 g : Nat} {t : TypeId} {k1 : Array Value} (h : Cells w g1 t k1) (hn : g1 ≠ g) {a b c d e f x i j : Value} :
    Cells (((((((((w.setCell ⟨g, 0, none⟩ a).setCell ⟨g, 1, none⟩ b).setCell ⟨g, 2, none⟩ c).setCell ⟨g, 3, none⟩ d).setCell ⟨g, 4, none⟩ e).setCell ⟨g, 5, none⟩ f).setCell ⟨g, 6, none⟩ x).setCell ⟨g, 7, none⟩ i).setCell ⟨g, 8, none⟩ j) g1 t k1 :=
  ((((((((h.far (a := ⟨g, 0, none⟩) hn a).far (a := ⟨g, 1, none⟩) hn b).far (a := ⟨g, 2, none⟩) hn c).far (a := ⟨g, 3, none⟩) hn d).far (a := ⟨g, 4, none⟩) hn e).far (a := ⟨g, 5, none⟩) hn f).far (a := ⟨g, 6, none⟩) hn x).far (a := ⟨g, 7, none⟩) hn i).far (a := ⟨g, 8, none⟩) hn j
theorem RowN.some {w : World} {base n cap : Nat} {A : Option Addr} {l : List Int} (h : RowN w base (.slice A n cap) l) (hn : 0 < l.length) : ∃ g, A = some ⟨g, 0, none⟩ := by
  rcases h.2 with ⟨_, h0⟩ | ⟨g, cap', cur, h1, _⟩
  · exact absurd h0 (by omega)
  · injection h1 with h1 h2 h3
    exact ⟨g, h1⟩

set_option maxHeartbeats 8000000 in
set_option maxRecDepth 100000 in
theorem shead_any (L : List UInt8) (hl : L.length ≤ 32768) (w : World) (hA : AllAt w) :
    Calls Tryz.prog 29 #[.string (strOf L)] w fun e w' => (∃ c : Cfg, e = .returned (.tuple #[c.val, .bool (readHead L).isSome]) ∧ ∀ d, readHead L = some d → c = d) ∧ Below w.heap.size w w' := by
  have HA : Hid (∀ W, Below w.heap.size w W → AllAt W) := Lib.hid fun W hW => hA.keep hW
  have ksp := fun W => split_any 32 L (by omega) W
  obtain ⟨w0, ws, hws⟩ := spl_cons 32 L
  have HWS := Lib.hid hws
  rw [hws] at ksp
  have HNL : Hid ((w0 :: ws).length ≤ 32769) := Lib.hid (by rw [← hws, spl_count]; have : L.count 32 ≤ L.length := List.count_le_length; omega)
  have HPL : Hid (∀ p ∈ ws, p.length < 1073741824) := Lib.hid fun p hp => by
    have h1 := spl_len 32 L p (by rw [hws]; simp [hp])
    omega
  obtain ⟨m, hm⟩ : ∃ m, ws.length = m := ⟨_, rfl⟩
  have HM := Lib.hid hm
  rw [List.length_cons, hm, List.map_cons] at ksp
  have HX := Lib.hid (Cells.new w 23 #[.int .i64 0, .int .i64 0, .int .i64 0, .int .i64 0, .int .i64 0, .int .i64 0, .int .i64 0, .int .i64 0, .int .i64 0])
  have HB := Lib.hid ((Below.refl w.heap.size w).alloc (Nat.le_refl _) (.cells #[.int .i64 0, .int .i64 0, .int .i64 0, .int .i64 0, .int .i64 0, .int .i64 0, .int .i64 0, .int .i64 0, .int .i64 0] 23))
  obtain ⟨RH, hRH⟩ : ∃ RH, readHead L = RH := ⟨_, rfl⟩
  rw [hRH]
  have HRH : Hid (RH = if w0 = fleetW then ((numsZ ws).bind cfgOf).bind fun c => if c.ok then some c else none else none) := Lib.hid (by rw [← hRH]; unfold readHead; rw [HWS.out]; rfl)
  have KSP := Lib.hid ksp
  clear ksp hws hA hl hm hRH
  generalize strOf L = S at *
  go_enter Tryz.func29, Tryz.ntmps29
  go_upto_region 1 with fail
  generalize w.alloc (.cells #[.int .i64 0, .int .i64 0, .int .i64 0, .int .i64 0, .int .i64 0, .int .i64 0, .int .i64 0, .int .i64 0, .int .i64 0] 23) = w1 at *
  go_upto_region 2 with (go_at_call 49; refine (KSP.out _).mono ?_; rintro _ _ ⟨rfl, rfl⟩)
  have HC2 := Lib.hid (Cells.new w1 9 (Value.string (strOf w0) :: ws.map fun p => Value.string (strOf p)).toArray)
  have HX2 := Lib.hid (HX.out.alloc (.cells (Value.string (strOf w0) :: ws.map fun p => Value.string (strOf p)).toArray 9))
  have HB2 := Lib.hid (HB.out.alloc HB.out.size (.cells (Value.string (strOf w0) :: ws.map fun p => Value.string (strOf p)).toArray 9))
  have HWB := Lib.hid (show w.heap.size < w1.heap.size from HX.out.lt)
  clear KSP HX HB
  generalize w1.alloc (.cells (Value.string (strOf w0) :: ws.map fun p => Value.string (strOf p)).toArray 9) = w2 at *
  generalize w1.heap.size = WB at *
  have HCL : Hid (∀ j p, ws[j]? = some p → w2.cell? ⟨WB, 1 + j, none⟩ = some (.string (strOf p))) := Lib.hid fun j p hp => HC2.out.cell (by
    rw [Nat.add_comm 1 j, List.getElem?_toArray, List.getElem?_cons_succ, List.getElem?_map, hp]; rfl)
  have hadr : (if m = 0 then some (⟨WB, 0, none⟩ : Addr) else some ⟨WB, 1, none⟩) = some ⟨WB, if m = 0 then 0 else 1, none⟩ := by split <;> rfl
  have kn := snums_any ws (by have := HNL.out; rw [List.length_cons] at this; omega) HPL.out WB (if m = 0 then 0 else 1) m w2 HC2.out.lt (fun j p hp => by
    have : m ≠ 0 := fun h => by
      have h2 := (List.getElem?_eq_some_iff.1 hp).1
      rw [HM.out, h] at h2
      exact absurd h2 (by omega)
    rw [if_neg this]
    exact HCL.out j p hp) (HA.out _ HB2.out)
  rw [HM.out, ← hadr] at kn
  have KN2 := Lib.hid kn
  have hmn : (0 : Int) ≤ m := by omega
  have hm1 : (1 : Int) ≤ ((m + 1 : Nat) : Int) := by omega
  clear kn hadr
  go_upto_region 3 with (go_at_call 50; refine KN2.out.mono ?_; rintro _ w3 ⟨⟨A, c2, rfl, hr⟩, hb3⟩; have HR3 := Lib.hid hr; have HB3 := Lib.hid (grow_to HB2.out hb3); have HC3 := Lib.hid (HC2.out.keep hb3); have HX3 := Lib.hid (HX2.out.keep hb3); clear hr hb3)
  clear KN2 HC2 HX2 HB2 HCL HA HPL
  have HW0 : Hid (w3.cell? ⟨WB, 0, none⟩ = some (.string (strOf w0))) := Lib.hid (HC3.out.cell (by rw [List.getElem?_toArray]; rfl))
  have c0 := HW0.out
  have HZ := Lib.hid HX3.out
  have x0 : w3.cell? ⟨w.heap.size, 0, none⟩ = some (.int .i64 0) := HX3.out.cell (j := 0) rfl
  have x1 : w3.cell? ⟨w.heap.size, 1, none⟩ = some (.int .i64 0) := HX3.out.cell (j := 1) rfl
  have x2 : w3.cell? ⟨w.heap.size, 2, none⟩ = some (.int .i64 0) := HX3.out.cell (j := 2) rfl
  have x3 : w3.cell? ⟨w.heap.size, 3, none⟩ = some (.int .i64 0) := HX3.out.cell (j := 3) rfl
  have x4 : w3.cell? ⟨w.heap.size, 4, none⟩ = some (.int .i64 0) := HX3.out.cell (j := 4) rfl
  have x5 : w3.cell? ⟨w.heap.size, 5, none⟩ = some (.int .i64 0) := HX3.out.cell (j := 5) rfl
  have x6 : w3.cell? ⟨w.heap.size, 6, none⟩ = some (.int .i64 0) := HX3.out.cell (j := 6) rfl
  have x7 : w3.cell? ⟨w.heap.size, 7, none⟩ = some (.int .i64 0) := HX3.out.cell (j := 7) rfl
  have x8 : w3.cell? ⟨w.heap.size, 8, none⟩ = some (.int .i64 0) := HX3.out.cell (j := 8) rfl
  have xz0 := HX3.out.fz 0
  have xz1 := HX3.out.fz 1
  have xz2 := HX3.out.fz 2
  have xz3 := HX3.out.fz 3
  have xz4 := HX3.out.fz 4
  have xz5 := HX3.out.fz 5
  have xz6 := HX3.out.fz 6
  have xz7 := HX3.out.fz 7
  have xz8 := HX3.out.fz 8
  generalize (if m = 0 then some (⟨WB, 0, none⟩ : Addr) else some ⟨WB, 1, none⟩) = dead at *
  generalize w1 = wdead at *
  cases hns : numsZ ws with
  | none =>
    have HNO : Hid (RH = none) := Lib.hid (by rw [HRH.out, hns]; simp)
    rw [hns] at HR3
    go_wp2
    exact ret_cfg (c := cfg0) rfl rfl rfl (set9_cells HX3.out) rfl ⟨⟨cfg0, by rw [HNO.out]; rfl, fun d h => by rw [HNO.out] at h; cases h⟩, set9_below HB3.out (Nat.le_refl _)⟩
  | some l =>
    rw [hns] at HR3
    by_cases hw0 : w0 = fleetW
    case neg =>
      have HNO : Hid (RH = none) := Lib.hid (by rw [HRH.out, if_neg hw0])
      have hd1 : ((strOf w0).toList == (ByteArray.mk #[102, 108, 101, 101, 116]).toList) = false := by
        show ((strOf w0).toList == (strOf fleetW).toList) = false
        rw [str_toList, str_toList, beq_eq_false_iff_ne]; exact hw0
      have hd2 : ((strOf w0).toList == [102, 108, 101, 101, 116]) = false := by rw [str_toList, beq_eq_false_iff_ne]; exact hw0
      clear hw0
      generalize strOf w0 = S0 at *
      go_wp2
      exact ret_cfg (c := cfg0) rfl rfl rfl (set9_cells HX3.out) rfl ⟨⟨cfg0, by rw [HNO.out]; rfl, fun d h => by rw [HNO.out] at h; cases h⟩, set9_below HB3.out (Nat.le_refl _)⟩
    have hq1 : (strOf w0) = (ByteArray.mk #[102, 108, 101, 101, 116]) := by rw [hw0]; rfl
    rw [hq1] at c0
    have HRH2 : Hid (RH = (cfgOf l).bind fun c => if c.ok then some c else none) := Lib.hid (by rw [HRH.out, if_pos hw0, hns]; rfl)
    clear hq1 hw0
    by_cases h9 : l.length = 9
    case neg =>
      have HNO : Hid (RH = none) := Lib.hid (by rw [HRH2.out, cfgOf_len h9]; rfl)
      have hl9 : ((l.length : Int) == 9) = false := by rw [beq_eq_false_iff_ne]; omega
      have hl8 : ((l.length : Int) != 9) = true := by rw [bne_iff_ne]; omega
      clear h9
      simp only [Option.getD_some, Option.isSome_some] at HR3 ⊢
      generalize l.length = len at *
      go_wp2
      exact ret_cfg (c := cfg0) rfl rfl rfl (set9_cells HX3.out) rfl ⟨⟨cfg0, by rw [HNO.out]; rfl, fun d h => by rw [HNO.out] at h; cases h⟩, set9_below HB3.out (Nat.le_refl _)⟩
    obtain ⟨c, hc9, hcn⟩ := cfgOf_nine h9
    have HRC : Hid (RH = if c.ok then some c else none) := Lib.hid (by rw [HRH2.out, hc9]; rfl)
    simp only [Option.getD_some, Option.isSome_some] at HR3 ⊢
    obtain ⟨gn, rfl⟩ := HR3.out.some (by omega)
    have n0 : w3.cell? ⟨gn, 0, none⟩ = some (.int .i64 c.ru) := HR3.out.cell 0 c.ru (by rw [← hcn]; rfl)
    have n1 : w3.cell? ⟨gn, 1, none⟩ = some (.int .i64 c.le) := HR3.out.cell 1 c.le (by rw [← hcn]; rfl)
    have n2 : w3.cell? ⟨gn, 2, none⟩ = some (.int .i64 c.re) := HR3.out.cell 2 c.re (by rw [← hcn]; rfl)
    have n3 : w3.cell? ⟨gn, 3, none⟩ = some (.int .i64 c.att) := HR3.out.cell 3 c.att (by rw [← hcn]; rfl)
    have n4 : w3.cell? ⟨gn, 4, none⟩ = some (.int .i64 c.wi) := HR3.out.cell 4 c.wi (by rw [← hcn]; rfl)
    have n5 : w3.cell? ⟨gn, 5, none⟩ = some (.int .i64 c.qu) := HR3.out.cell 5 c.qu (by rw [← hcn]; rfl)
    have n6 : w3.cell? ⟨gn, 6, none⟩ = some (.int .i64 c.bl) := HR3.out.cell 6 c.bl (by rw [← hcn]; rfl)
    have n7 : w3.cell? ⟨gn, 7, none⟩ = some (.int .i64 c.ev) := HR3.out.cell 7 c.ev (by rw [← hcn]; rfl)
    have n8 : w3.cell? ⟨gn, 8, none⟩ = some (.int .i64 c.ha) := HR3.out.cell 8 c.ha (by rw [← hcn]; rfl)
    have hl9 : ((9 : Int) == 9) = true := rfl
    rw [h9] at HR3 ⊢
    clear HRH2 HRH hc9 hcn h9
    go_upto_region 5 with fail
    have HN5 : Hid (Cells ((w3.alloc (.cells #[.int .i64 0, .int .i64 0, .int .i64 0, .int .i64 0, .int .i64 0, .int .i64 0, .int .i64 0, .int .i64 0, .int .i64 0] 23)).drew) w3.heap.size 23 #[.int .i64 0, .int .i64 0, .int .i64 0, .int .i64 0, .int .i64 0, .int .i64 0, .int .i64 0, .int .i64 0, .int .i64 0]) := Lib.hid (Cells.drew (Cells.new w3 23 #[.int .i64 0, .int .i64 0, .int .i64 0, .int .i64 0, .int .i64 0, .int .i64 0, .int .i64 0, .int .i64 0, .int .i64 0]))
    have HX5 : Hid (Cells ((w3.alloc (.cells #[.int .i64 0, .int .i64 0, .int .i64 0, .int .i64 0, .int .i64 0, .int .i64 0, .int .i64 0, .int .i64 0, .int .i64 0] 23)).drew) w.heap.size 23 #[.int .i64 0, .int .i64 0, .int .i64 0, .int .i64 0, .int .i64 0, .int .i64 0, .int .i64 0, .int .i64 0, .int .i64 0]) := Lib.hid (Cells.drew (HX3.out.alloc (.cells #[.int .i64 0, .int .i64 0, .int .i64 0, .int .i64 0, .int .i64 0, .int .i64 0, .int .i64 0, .int .i64 0, .int .i64 0] 23)))
    have HB5 : Hid (Below w.heap.size w ((w3.alloc (.cells #[.int .i64 0, .int .i64 0, .int .i64 0, .int .i64 0, .int .i64 0, .int .i64 0, .int .i64 0, .int .i64 0, .int .i64 0] 23)).drew)) := Lib.hid ((HB3.out.alloc HB3.out.size (.cells #[.int .i64 0, .int .i64 0, .int .i64 0, .int .i64 0, .int .i64 0, .int .i64 0, .int .i64 0, .int .i64 0, .int .i64 0] 23)).drew)
    have m0 : ((w3.alloc (.cells #[.int .i64 0, .int .i64 0, .int .i64 0, .int .i64 0, .int .i64 0, .int .i64 0, .int .i64 0, .int .i64 0, .int .i64 0] 23)).drew).cell? ⟨gn, 0, none⟩ = some (.int .i64 c.ru) := (cell_keeps ((Below.refl w3.heap.size w3).alloc (Nat.le_refl _) (.cells #[.int .i64 0, .int .i64 0, .int .i64 0, .int .i64 0, .int .i64 0, .int .i64 0, .int .i64 0, .int .i64 0, .int .i64 0] 23)).drew n0)
    have m1 : ((w3.alloc (.cells #[.int .i64 0, .int .i64 0, .int .i64 0, .int .i64 0, .int .i64 0, .int .i64 0, .int .i64 0, .int .i64 0, .int .i64 0] 23)).drew).cell? ⟨gn, 1, none⟩ = some (.int .i64 c.le) := (cell_keeps ((Below.refl w3.heap.size w3).alloc (Nat.le_refl _) (.cells #[.int .i64 0, .int .i64 0, .int .i64 0, .int .i64 0, .int .i64 0, .int .i64 0, .int .i64 0, .int .i64 0, .int .i64 0] 23)).drew n1)
    have m2 : ((w3.alloc (.cells #[.int .i64 0, .int .i64 0, .int .i64 0, .int .i64 0, .int .i64 0, .int .i64 0, .int .i64 0, .int .i64 0, .int .i64 0] 23)).drew).cell? ⟨gn, 2, none⟩ = some (.int .i64 c.re) := (cell_keeps ((Below.refl w3.heap.size w3).alloc (Nat.le_refl _) (.cells #[.int .i64 0, .int .i64 0, .int .i64 0, .int .i64 0, .int .i64 0, .int .i64 0, .int .i64 0, .int .i64 0, .int .i64 0] 23)).drew n2)
    have m3 : ((w3.alloc (.cells #[.int .i64 0, .int .i64 0, .int .i64 0, .int .i64 0, .int .i64 0, .int .i64 0, .int .i64 0, .int .i64 0, .int .i64 0] 23)).drew).cell? ⟨gn, 3, none⟩ = some (.int .i64 c.att) := (cell_keeps ((Below.refl w3.heap.size w3).alloc (Nat.le_refl _) (.cells #[.int .i64 0, .int .i64 0, .int .i64 0, .int .i64 0, .int .i64 0, .int .i64 0, .int .i64 0, .int .i64 0, .int .i64 0] 23)).drew n3)
    have m4 : ((w3.alloc (.cells #[.int .i64 0, .int .i64 0, .int .i64 0, .int .i64 0, .int .i64 0, .int .i64 0, .int .i64 0, .int .i64 0, .int .i64 0] 23)).drew).cell? ⟨gn, 4, none⟩ = some (.int .i64 c.wi) := (cell_keeps ((Below.refl w3.heap.size w3).alloc (Nat.le_refl _) (.cells #[.int .i64 0, .int .i64 0, .int .i64 0, .int .i64 0, .int .i64 0, .int .i64 0, .int .i64 0, .int .i64 0, .int .i64 0] 23)).drew n4)
    have m5 : ((w3.alloc (.cells #[.int .i64 0, .int .i64 0, .int .i64 0, .int .i64 0, .int .i64 0, .int .i64 0, .int .i64 0, .int .i64 0, .int .i64 0] 23)).drew).cell? ⟨gn, 5, none⟩ = some (.int .i64 c.qu) := (cell_keeps ((Below.refl w3.heap.size w3).alloc (Nat.le_refl _) (.cells #[.int .i64 0, .int .i64 0, .int .i64 0, .int .i64 0, .int .i64 0, .int .i64 0, .int .i64 0, .int .i64 0, .int .i64 0] 23)).drew n5)
    have m6 : ((w3.alloc (.cells #[.int .i64 0, .int .i64 0, .int .i64 0, .int .i64 0, .int .i64 0, .int .i64 0, .int .i64 0, .int .i64 0, .int .i64 0] 23)).drew).cell? ⟨gn, 6, none⟩ = some (.int .i64 c.bl) := (cell_keeps ((Below.refl w3.heap.size w3).alloc (Nat.le_refl _) (.cells #[.int .i64 0, .int .i64 0, .int .i64 0, .int .i64 0, .int .i64 0, .int .i64 0, .int .i64 0, .int .i64 0, .int .i64 0] 23)).drew n6)
    have m7 : ((w3.alloc (.cells #[.int .i64 0, .int .i64 0, .int .i64 0, .int .i64 0, .int .i64 0, .int .i64 0, .int .i64 0, .int .i64 0, .int .i64 0] 23)).drew).cell? ⟨gn, 7, none⟩ = some (.int .i64 c.ev) := (cell_keeps ((Below.refl w3.heap.size w3).alloc (Nat.le_refl _) (.cells #[.int .i64 0, .int .i64 0, .int .i64 0, .int .i64 0, .int .i64 0, .int .i64 0, .int .i64 0, .int .i64 0, .int .i64 0] 23)).drew n7)
    have m8 : ((w3.alloc (.cells #[.int .i64 0, .int .i64 0, .int .i64 0, .int .i64 0, .int .i64 0, .int .i64 0, .int .i64 0, .int .i64 0, .int .i64 0] 23)).drew).cell? ⟨gn, 8, none⟩ = some (.int .i64 c.ha) := (cell_keeps ((Below.refl w3.heap.size w3).alloc (Nat.le_refl _) (.cells #[.int .i64 0, .int .i64 0, .int .i64 0, .int .i64 0, .int .i64 0, .int .i64 0, .int .i64 0, .int .i64 0, .int .i64 0] 23)).drew n8)
    have q0 : ((w3.alloc (.cells #[.int .i64 0, .int .i64 0, .int .i64 0, .int .i64 0, .int .i64 0, .int .i64 0, .int .i64 0, .int .i64 0, .int .i64 0] 23)).drew).cell? ⟨w3.heap.size, 0, none⟩ = some (.int .i64 0) := HN5.out.cell (j := 0) rfl
    have q1 : ((w3.alloc (.cells #[.int .i64 0, .int .i64 0, .int .i64 0, .int .i64 0, .int .i64 0, .int .i64 0, .int .i64 0, .int .i64 0, .int .i64 0] 23)).drew).cell? ⟨w3.heap.size, 1, none⟩ = some (.int .i64 0) := HN5.out.cell (j := 1) rfl
    have q2 : ((w3.alloc (.cells #[.int .i64 0, .int .i64 0, .int .i64 0, .int .i64 0, .int .i64 0, .int .i64 0, .int .i64 0, .int .i64 0, .int .i64 0] 23)).drew).cell? ⟨w3.heap.size, 2, none⟩ = some (.int .i64 0) := HN5.out.cell (j := 2) rfl
    have q3 : ((w3.alloc (.cells #[.int .i64 0, .int .i64 0, .int .i64 0, .int .i64 0, .int .i64 0, .int .i64 0, .int .i64 0, .int .i64 0, .int .i64 0] 23)).drew).cell? ⟨w3.heap.size, 3, none⟩ = some (.int .i64 0) := HN5.out.cell (j := 3) rfl
    have q4 : ((w3.alloc (.cells #[.int .i64 0, .int .i64 0, .int .i64 0, .int .i64 0, .int .i64 0, .int .i64 0, .int .i64 0, .int .i64 0, .int .i64 0] 23)).drew).cell? ⟨w3.heap.size, 4, none⟩ = some (.int .i64 0) := HN5.out.cell (j := 4) rfl
    have q5 : ((w3.alloc (.cells #[.int .i64 0, .int .i64 0, .int .i64 0, .int .i64 0, .int .i64 0, .int .i64 0, .int .i64 0, .int .i64 0, .int .i64 0] 23)).drew).cell? ⟨w3.heap.size, 5, none⟩ = some (.int .i64 0) := HN5.out.cell (j := 5) rfl
    have q6 : ((w3.alloc (.cells #[.int .i64 0, .int .i64 0, .int .i64 0, .int .i64 0, .int .i64 0, .int .i64 0, .int .i64 0, .int .i64 0, .int .i64 0] 23)).drew).cell? ⟨w3.heap.size, 6, none⟩ = some (.int .i64 0) := HN5.out.cell (j := 6) rfl
    have q7 : ((w3.alloc (.cells #[.int .i64 0, .int .i64 0, .int .i64 0, .int .i64 0, .int .i64 0, .int .i64 0, .int .i64 0, .int .i64 0, .int .i64 0] 23)).drew).cell? ⟨w3.heap.size, 7, none⟩ = some (.int .i64 0) := HN5.out.cell (j := 7) rfl
    have q8 : ((w3.alloc (.cells #[.int .i64 0, .int .i64 0, .int .i64 0, .int .i64 0, .int .i64 0, .int .i64 0, .int .i64 0, .int .i64 0, .int .i64 0] 23)).drew).cell? ⟨w3.heap.size, 8, none⟩ = some (.int .i64 0) := HN5.out.cell (j := 8) rfl
    have qz0 := HN5.out.fz 0
    have qz1 := HN5.out.fz 1
    have qz2 := HN5.out.fz 2
    have qz3 := HN5.out.fz 3
    have qz4 := HN5.out.fz 4
    have qz5 := HN5.out.fz 5
    have qz6 := HN5.out.fz 6
    have qz7 := HN5.out.fz 7
    have qz8 := HN5.out.fz 8
    have HGN : Hid (w.heap.size < w3.heap.size) := Lib.hid HX3.out.lt
    have HD0 := Lib.hid (show w3.drew.cell? ⟨gn, 0, none⟩ = some (.int .i64 c.ru) ∧ w3.drew.cell? ⟨gn, 1, none⟩ = some (.int .i64 c.le) ∧ w3.drew.cell? ⟨gn, 2, none⟩ = some (.int .i64 c.re) ∧ w3.drew.cell? ⟨gn, 3, none⟩ = some (.int .i64 c.att) ∧ w3.drew.cell? ⟨gn, 4, none⟩ = some (.int .i64 c.wi) ∧ w3.drew.cell? ⟨gn, 5, none⟩ = some (.int .i64 c.qu) ∧ w3.drew.cell? ⟨gn, 6, none⟩ = some (.int .i64 c.bl) ∧ w3.drew.cell? ⟨gn, 7, none⟩ = some (.int .i64 c.ev) ∧ w3.drew.cell? ⟨gn, 8, none⟩ = some (.int .i64 c.ha) from ⟨n0, n1, n2, n3, n4, n5, n6, n7, n8⟩)
    have HK9 := Lib.hid (show ((w3.alloc (.cells #[.int .i64 c.ru, .int .i64 c.le, .int .i64 c.re, .int .i64 c.att, .int .i64 c.wi, .int .i64 c.qu, .int .i64 c.bl, .int .i64 c.ev, .int .i64 c.ha] 23)).drew).cell? ⟨gn, 0, none⟩ = some (.int .i64 c.ru) ∧ ((w3.alloc (.cells #[.int .i64 c.ru, .int .i64 c.le, .int .i64 c.re, .int .i64 c.att, .int .i64 c.wi, .int .i64 c.qu, .int .i64 c.bl, .int .i64 c.ev, .int .i64 c.ha] 23)).drew).cell? ⟨gn, 1, none⟩ = some (.int .i64 c.le) ∧ ((w3.alloc (.cells #[.int .i64 c.ru, .int .i64 c.le, .int .i64 c.re, .int .i64 c.att, .int .i64 c.wi, .int .i64 c.qu, .int .i64 c.bl, .int .i64 c.ev, .int .i64 c.ha] 23)).drew).cell? ⟨gn, 2, none⟩ = some (.int .i64 c.re) ∧ ((w3.alloc (.cells #[.int .i64 c.ru, .int .i64 c.le, .int .i64 c.re, .int .i64 c.att, .int .i64 c.wi, .int .i64 c.qu, .int .i64 c.bl, .int .i64 c.ev, .int .i64 c.ha] 23)).drew).cell? ⟨gn, 3, none⟩ = some (.int .i64 c.att) ∧ ((w3.alloc (.cells #[.int .i64 c.ru, .int .i64 c.le, .int .i64 c.re, .int .i64 c.att, .int .i64 c.wi, .int .i64 c.qu, .int .i64 c.bl, .int .i64 c.ev, .int .i64 c.ha] 23)).drew).cell? ⟨gn, 4, none⟩ = some (.int .i64 c.wi) ∧ ((w3.alloc (.cells #[.int .i64 c.ru, .int .i64 c.le, .int .i64 c.re, .int .i64 c.att, .int .i64 c.wi, .int .i64 c.qu, .int .i64 c.bl, .int .i64 c.ev, .int .i64 c.ha] 23)).drew).cell? ⟨gn, 5, none⟩ = some (.int .i64 c.qu) ∧ ((w3.alloc (.cells #[.int .i64 c.ru, .int .i64 c.le, .int .i64 c.re, .int .i64 c.att, .int .i64 c.wi, .int .i64 c.qu, .int .i64 c.bl, .int .i64 c.ev, .int .i64 c.ha] 23)).drew).cell? ⟨gn, 6, none⟩ = some (.int .i64 c.bl) ∧ ((w3.alloc (.cells #[.int .i64 c.ru, .int .i64 c.le, .int .i64 c.re, .int .i64 c.att, .int .i64 c.wi, .int .i64 c.qu, .int .i64 c.bl, .int .i64 c.ev, .int .i64 c.ha] 23)).drew).cell? ⟨gn, 7, none⟩ = some (.int .i64 c.ev) ∧ ((w3.alloc (.cells #[.int .i64 c.ru, .int .i64 c.le, .int .i64 c.re, .int .i64 c.att, .int .i64 c.wi, .int .i64 c.qu, .int .i64 c.bl, .int .i64 c.ev, .int .i64 c.ha] 23)).drew).cell? ⟨gn, 8, none⟩ = some (.int .i64 c.ha) from ⟨cell_keeps (((Below.refl w3.heap.size w3).alloc (Nat.le_refl _) (.cells #[.int .i64 c.ru, .int .i64 c.le, .int .i64 c.re, .int .i64 c.att, .int .i64 c.wi, .int .i64 c.qu, .int .i64 c.bl, .int .i64 c.ev, .int .i64 c.ha] 23)).drew) n0, cell_keeps (((Below.refl w3.heap.size w3).alloc (Nat.le_refl _) (.cells #[.int .i64 c.ru, .int .i64 c.le, .int .i64 c.re, .int .i64 c.att, .int .i64 c.wi, .int .i64 c.qu, .int .i64 c.bl, .int .i64 c.ev, .int .i64 c.ha] 23)).drew) n1, cell_keeps (((Below.refl w3.heap.size w3).alloc (Nat.le_refl _) (.cells #[.int .i64 c.ru, .int .i64 c.le, .int .i64 c.re, .int .i64 c.att, .int .i64 c.wi, .int .i64 c.qu, .int .i64 c.bl, .int .i64 c.ev, .int .i64 c.ha] 23)).drew) n2, cell_keeps (((Below.refl w3.heap.size w3).alloc (Nat.le_refl _) (.cells #[.int .i64 c.ru, .int .i64 c.le, .int .i64 c.re, .int .i64 c.att, .int .i64 c.wi, .int .i64 c.qu, .int .i64 c.bl, .int .i64 c.ev, .int .i64 c.ha] 23)).drew) n3, cell_keeps (((Below.refl w3.heap.size w3).alloc (Nat.le_refl _) (.cells #[.int .i64 c.ru, .int .i64 c.le, .int .i64 c.re, .int .i64 c.att, .int .i64 c.wi, .int .i64 c.qu, .int .i64 c.bl, .int .i64 c.ev, .int .i64 c.ha] 23)).drew) n4, cell_keeps (((Below.refl w3.heap.size w3).alloc (Nat.le_refl _) (.cells #[.int .i64 c.ru, .int .i64 c.le, .int .i64 c.re, .int .i64 c.att, .int .i64 c.wi, .int .i64 c.qu, .int .i64 c.bl, .int .i64 c.ev, .int .i64 c.ha] 23)).drew) n5, cell_keeps (((Below.refl w3.heap.size w3).alloc (Nat.le_refl _) (.cells #[.int .i64 c.ru, .int .i64 c.le, .int .i64 c.re, .int .i64 c.att, .int .i64 c.wi, .int .i64 c.qu, .int .i64 c.bl, .int .i64 c.ev, .int .i64 c.ha] 23)).drew) n6, cell_keeps (((Below.refl w3.heap.size w3).alloc (Nat.le_refl _) (.cells #[.int .i64 c.ru, .int .i64 c.le, .int .i64 c.re, .int .i64 c.att, .int .i64 c.wi, .int .i64 c.qu, .int .i64 c.bl, .int .i64 c.ev, .int .i64 c.ha] 23)).drew) n7, cell_keeps (((Below.refl w3.heap.size w3).alloc (Nat.le_refl _) (.cells #[.int .i64 c.ru, .int .i64 c.le, .int .i64 c.re, .int .i64 c.att, .int .i64 c.wi, .int .i64 c.qu, .int .i64 c.bl, .int .i64 c.ev, .int .i64 c.ha] 23)).drew) n8⟩)
    go_region_held3 (fun w' => w'.cell? ⟨gn, 0, none⟩ = some (.int .i64 c.ru) ∧ w'.cell? ⟨gn, 1, none⟩ = some (.int .i64 c.le) ∧ w'.cell? ⟨gn, 2, none⟩ = some (.int .i64 c.re) ∧ w'.cell? ⟨gn, 3, none⟩ = some (.int .i64 c.att) ∧ w'.cell? ⟨gn, 4, none⟩ = some (.int .i64 c.wi) ∧ w'.cell? ⟨gn, 5, none⟩ = some (.int .i64 c.qu) ∧ w'.cell? ⟨gn, 6, none⟩ = some (.int .i64 c.bl) ∧ w'.cell? ⟨gn, 7, none⟩ = some (.int .i64 c.ev) ∧ w'.cell? ⟨gn, 8, none⟩ = some (.int .i64 c.ha)) ((first | (with_reducible exact HD0.out) | (with_reducible exact ⟨m0, m1, m2, m3, m4, m5, m6, m7, m8⟩) | (with_reducible exact HK9.out) | (with_reducible assumption))) (fail)
    have HN6 : Hid (Cells ((w3.alloc (.cells #[.int .i64 c.ru, .int .i64 c.le, .int .i64 c.re, .int .i64 c.att, .int .i64 c.wi, .int .i64 c.qu, .int .i64 c.bl, .int .i64 c.ev, .int .i64 c.ha] 23)).drew) w3.heap.size 23 #[.int .i64 c.ru, .int .i64 c.le, .int .i64 c.re, .int .i64 c.att, .int .i64 c.wi, .int .i64 c.qu, .int .i64 c.bl, .int .i64 c.ev, .int .i64 c.ha]) := Lib.hid (Cells.drew (Cells.new w3 23 #[.int .i64 c.ru, .int .i64 c.le, .int .i64 c.re, .int .i64 c.att, .int .i64 c.wi, .int .i64 c.qu, .int .i64 c.bl, .int .i64 c.ev, .int .i64 c.ha]))
    have HX6 : Hid (Cells ((w3.alloc (.cells #[.int .i64 c.ru, .int .i64 c.le, .int .i64 c.re, .int .i64 c.att, .int .i64 c.wi, .int .i64 c.qu, .int .i64 c.bl, .int .i64 c.ev, .int .i64 c.ha] 23)).drew) w.heap.size 23 #[.int .i64 0, .int .i64 0, .int .i64 0, .int .i64 0, .int .i64 0, .int .i64 0, .int .i64 0, .int .i64 0, .int .i64 0]) := Lib.hid (Cells.drew (HX3.out.alloc (.cells #[.int .i64 c.ru, .int .i64 c.le, .int .i64 c.re, .int .i64 c.att, .int .i64 c.wi, .int .i64 c.qu, .int .i64 c.bl, .int .i64 c.ev, .int .i64 c.ha] 23)))
    have HB6 : Hid (Below w.heap.size w ((w3.alloc (.cells #[.int .i64 c.ru, .int .i64 c.le, .int .i64 c.re, .int .i64 c.att, .int .i64 c.wi, .int .i64 c.qu, .int .i64 c.bl, .int .i64 c.ev, .int .i64 c.ha] 23)).drew)) := Lib.hid ((HB3.out.alloc HB3.out.size (.cells #[.int .i64 c.ru, .int .i64 c.le, .int .i64 c.re, .int .i64 c.att, .int .i64 c.wi, .int .i64 c.qu, .int .i64 c.bl, .int .i64 c.ev, .int .i64 c.ha] 23)).drew)
    clear HN5 HX5 HB5 HD0 HK9 n0 n1 n2 n3 n4 n5 n6 n7 n8 m0 m1 m2 m3 m4 m5 m6 m7 m8 q0 qz0 q1 qz1 q2 qz2 q3 qz3 q4 qz4 q5 qz5 q6 qz6 q7 qz7 q8 qz8 x0 xz0 x1 xz1 x2 xz2 x3 xz3 x4 xz4 x5 xz5 x6 xz6 x7 xz7 x8 xz8 HR3 HX3 HB3 HC3 HW0 HZ c0
    generalize (w3.alloc (.cells #[.int .i64 c.ru, .int .i64 c.le, .int .i64 c.re, .int .i64 c.att, .int .i64 c.wi, .int .i64 c.qu, .int .i64 c.bl, .int .i64 c.ev, .int .i64 c.ha] 23)).drew = w6 at *
    generalize w3.heap.size = NB at *
    clear w3
    go_upto_region 6 with fail
    have HX6d : Hid (Cells w6.drew w.heap.size 23 #[.int .i64 0, .int .i64 0, .int .i64 0, .int .i64 0, .int .i64 0, .int .i64 0, .int .i64 0, .int .i64 0, .int .i64 0]) := Lib.hid HX6.out
    have HN6d : Hid (Cells w6.drew NB 23 #[.int .i64 c.ru, .int .i64 c.le, .int .i64 c.re, .int .i64 c.att, .int .i64 c.wi, .int .i64 c.qu, .int .i64 c.bl, .int .i64 c.ev, .int .i64 c.ha]) := Lib.hid HN6.out
    have HB6d : Hid (Below w.heap.size w w6.drew) := Lib.hid HB6.out.drew
    have HXS : Hid (Cells ((((((((((w6.drew.setCell ⟨w.heap.size, 0, none⟩ (.int .i64 c.ru)).setCell ⟨w.heap.size, 1, none⟩ (.int .i64 c.le)).setCell ⟨w.heap.size, 2, none⟩ (.int .i64 c.re)).setCell ⟨w.heap.size, 3, none⟩ (.int .i64 c.att)).setCell ⟨w.heap.size, 4, none⟩ (.int .i64 c.wi)).setCell ⟨w.heap.size, 5, none⟩ (.int .i64 c.qu)).setCell ⟨w.heap.size, 6, none⟩ (.int .i64 c.bl)).setCell ⟨w.heap.size, 7, none⟩ (.int .i64 c.ev)).setCell ⟨w.heap.size, 8, none⟩ (.int .i64 c.ha))) w.heap.size 23 #[.int .i64 c.ru, .int .i64 c.le, .int .i64 c.re, .int .i64 c.att, .int .i64 c.wi, .int .i64 c.qu, .int .i64 c.bl, .int .i64 c.ev, .int .i64 c.ha]) := Lib.hid (set9_cells HX6d.out)
    have HBS : Hid (Below w.heap.size w ((((((((((w6.drew.setCell ⟨w.heap.size, 0, none⟩ (.int .i64 c.ru)).setCell ⟨w.heap.size, 1, none⟩ (.int .i64 c.le)).setCell ⟨w.heap.size, 2, none⟩ (.int .i64 c.re)).setCell ⟨w.heap.size, 3, none⟩ (.int .i64 c.att)).setCell ⟨w.heap.size, 4, none⟩ (.int .i64 c.wi)).setCell ⟨w.heap.size, 5, none⟩ (.int .i64 c.qu)).setCell ⟨w.heap.size, 6, none⟩ (.int .i64 c.bl)).setCell ⟨w.heap.size, 7, none⟩ (.int .i64 c.ev)).setCell ⟨w.heap.size, 8, none⟩ (.int .i64 c.ha)))) := Lib.hid (set9_below HB6d.out (Nat.le_refl _))
    have HNS : Hid (Cells ((((((((((w6.drew.setCell ⟨w.heap.size, 0, none⟩ (.int .i64 c.ru)).setCell ⟨w.heap.size, 1, none⟩ (.int .i64 c.le)).setCell ⟨w.heap.size, 2, none⟩ (.int .i64 c.re)).setCell ⟨w.heap.size, 3, none⟩ (.int .i64 c.att)).setCell ⟨w.heap.size, 4, none⟩ (.int .i64 c.wi)).setCell ⟨w.heap.size, 5, none⟩ (.int .i64 c.qu)).setCell ⟨w.heap.size, 6, none⟩ (.int .i64 c.bl)).setCell ⟨w.heap.size, 7, none⟩ (.int .i64 c.ev)).setCell ⟨w.heap.size, 8, none⟩ (.int .i64 c.ha))) NB 23 #[.int .i64 c.ru, .int .i64 c.le, .int .i64 c.re, .int .i64 c.att, .int .i64 c.wi, .int .i64 c.qu, .int .i64 c.bl, .int .i64 c.ev, .int .i64 c.ha]) := Lib.hid (HN6d.out.far9 (Nat.ne_of_gt HGN.out))
    have HKEEP : Hid (∀ W, Cells W NB 23 #[.int .i64 c.ru, .int .i64 c.le, .int .i64 c.re, .int .i64 c.att, .int .i64 c.wi, .int .i64 c.qu, .int .i64 c.bl, .int .i64 c.ev, .int .i64 c.ha] → W.cell? ⟨NB, 0, none⟩ = some (.int .i64 c.ru) ∧ W.cell? ⟨NB, 1, none⟩ = some (.int .i64 c.le) ∧ W.cell? ⟨NB, 2, none⟩ = some (.int .i64 c.re) ∧ W.cell? ⟨NB, 3, none⟩ = some (.int .i64 c.att) ∧ W.cell? ⟨NB, 4, none⟩ = some (.int .i64 c.wi) ∧ W.cell? ⟨NB, 5, none⟩ = some (.int .i64 c.qu) ∧ W.cell? ⟨NB, 6, none⟩ = some (.int .i64 c.bl) ∧ W.cell? ⟨NB, 7, none⟩ = some (.int .i64 c.ev) ∧ W.cell? ⟨NB, 8, none⟩ = some (.int .i64 c.ha)) := Lib.hid fun W h => ⟨h.cell (j := 0) rfl, h.cell (j := 1) rfl, h.cell (j := 2) rfl, h.cell (j := 3) rfl, h.cell (j := 4) rfl, h.cell (j := 5) rfl, h.cell (j := 6) rfl, h.cell (j := 7) rfl, h.cell (j := 8) rfl⟩
    have HS9 : Hid (∀ W, Cells W NB 23 #[.int .i64 c.ru, .int .i64 c.le, .int .i64 c.re, .int .i64 c.att, .int .i64 c.wi, .int .i64 c.qu, .int .i64 c.bl, .int .i64 c.ev, .int .i64 c.ha] → Cells ((((((((((W.setCell ⟨w.heap.size, 0, none⟩ (.int .i64 c.ru)).setCell ⟨w.heap.size, 1, none⟩ (.int .i64 c.le)).setCell ⟨w.heap.size, 2, none⟩ (.int .i64 c.re)).setCell ⟨w.heap.size, 3, none⟩ (.int .i64 c.att)).setCell ⟨w.heap.size, 4, none⟩ (.int .i64 c.wi)).setCell ⟨w.heap.size, 5, none⟩ (.int .i64 c.qu)).setCell ⟨w.heap.size, 6, none⟩ (.int .i64 c.bl)).setCell ⟨w.heap.size, 7, none⟩ (.int .i64 c.ev)).setCell ⟨w.heap.size, 8, none⟩ (.int .i64 c.ha))) NB 23 #[.int .i64 c.ru, .int .i64 c.le, .int .i64 c.re, .int .i64 c.att, .int .i64 c.wi, .int .i64 c.qu, .int .i64 c.bl, .int .i64 c.ev, .int .i64 c.ha]) := Lib.hid fun W h => h.far9 (Nat.ne_of_gt HGN.out)
    have y0 : w6.drew.cell? ⟨w.heap.size, 0, none⟩ = some (.int .i64 0) := HX6d.out.cell (j := 0) rfl
    have y1 : w6.drew.cell? ⟨w.heap.size, 1, none⟩ = some (.int .i64 0) := HX6d.out.cell (j := 1) rfl
    have y2 : w6.drew.cell? ⟨w.heap.size, 2, none⟩ = some (.int .i64 0) := HX6d.out.cell (j := 2) rfl
    have y3 : w6.drew.cell? ⟨w.heap.size, 3, none⟩ = some (.int .i64 0) := HX6d.out.cell (j := 3) rfl
    have y4 : w6.drew.cell? ⟨w.heap.size, 4, none⟩ = some (.int .i64 0) := HX6d.out.cell (j := 4) rfl
    have y5 : w6.drew.cell? ⟨w.heap.size, 5, none⟩ = some (.int .i64 0) := HX6d.out.cell (j := 5) rfl
    have y6 : w6.drew.cell? ⟨w.heap.size, 6, none⟩ = some (.int .i64 0) := HX6d.out.cell (j := 6) rfl
    have y7 : w6.drew.cell? ⟨w.heap.size, 7, none⟩ = some (.int .i64 0) := HX6d.out.cell (j := 7) rfl
    have y8 : w6.drew.cell? ⟨w.heap.size, 8, none⟩ = some (.int .i64 0) := HX6d.out.cell (j := 8) rfl
    have yz0 := HX6d.out.fz 0
    have yz1 := HX6d.out.fz 1
    have yz2 := HX6d.out.fz 2
    have yz3 := HX6d.out.fz 3
    have yz4 := HX6d.out.fz 4
    have yz5 := HX6d.out.fz 5
    have yz6 := HX6d.out.fz 6
    have yz7 := HX6d.out.fz 7
    have yz8 := HX6d.out.fz 8
    by_cases hok : c.ok
    · have HRC2 : Hid (RH = some c) := Lib.hid (by rw [HRC.out, if_pos hok])
      have KCH : Hid (∀ W, Calls Tryz.prog 13 #[.agg #[.int .i64 c.ru, .int .i64 c.le, .int .i64 c.re, .int .i64 c.att, .int .i64 c.wi, .int .i64 c.qu, .int .i64 c.bl, .int .i64 c.ev, .int .i64 c.ha]] W fun e w' => e = .returned (.int .i64 0) ∧ Below W.heap.size W w') := Lib.hid fun W => by
        have k := ccheck_any c W
        rw [if_pos hok] at k
        exact k
      clear HRC hok
      go_region_held3 (fun w' => w'.cell? ⟨NB, 0, none⟩ = some (.int .i64 c.ru) ∧ w'.cell? ⟨NB, 1, none⟩ = some (.int .i64 c.le) ∧ w'.cell? ⟨NB, 2, none⟩ = some (.int .i64 c.re) ∧ w'.cell? ⟨NB, 3, none⟩ = some (.int .i64 c.att) ∧ w'.cell? ⟨NB, 4, none⟩ = some (.int .i64 c.wi) ∧ w'.cell? ⟨NB, 5, none⟩ = some (.int .i64 c.qu) ∧ w'.cell? ⟨NB, 6, none⟩ = some (.int .i64 c.bl) ∧ w'.cell? ⟨NB, 7, none⟩ = some (.int .i64 c.ev) ∧ w'.cell? ⟨NB, 8, none⟩ = some (.int .i64 c.ha)) ((first | (with_reducible exact HKEEP.out _ HN6d.out) | (with_reducible exact HKEEP.out _ HN7.out) | (with_reducible exact HKEEP.out _ HNS.out) | (with_reducible exact HKEEP.out _ (HS9.out _ HN7.out)) | (with_reducible assumption))) ((go_at_call 13; refine (KCH.out _).mono ?_; rintro _ w7 ⟨rfl, hb7⟩; first | (have HX7 := Lib.hid (HX6d.out.keep hb7); have HN7 := Lib.hid (HN6d.out.keep hb7); have HB7 := Lib.hid (grow_to HB6d.out hb7); have z0 : w7.cell? ⟨w.heap.size, 0, none⟩ = some (.int .i64 0) := HX7.out.cell (j := 0) rfl; have z1 : w7.cell? ⟨w.heap.size, 1, none⟩ = some (.int .i64 0) := HX7.out.cell (j := 1) rfl; have z2 : w7.cell? ⟨w.heap.size, 2, none⟩ = some (.int .i64 0) := HX7.out.cell (j := 2) rfl; have z3 : w7.cell? ⟨w.heap.size, 3, none⟩ = some (.int .i64 0) := HX7.out.cell (j := 3) rfl; have z4 : w7.cell? ⟨w.heap.size, 4, none⟩ = some (.int .i64 0) := HX7.out.cell (j := 4) rfl; have z5 : w7.cell? ⟨w.heap.size, 5, none⟩ = some (.int .i64 0) := HX7.out.cell (j := 5) rfl; have z6 : w7.cell? ⟨w.heap.size, 6, none⟩ = some (.int .i64 0) := HX7.out.cell (j := 6) rfl; have z7 : w7.cell? ⟨w.heap.size, 7, none⟩ = some (.int .i64 0) := HX7.out.cell (j := 7) rfl; have z8 : w7.cell? ⟨w.heap.size, 8, none⟩ = some (.int .i64 0) := HX7.out.cell (j := 8) rfl; have zz0 := HX7.out.fz 0; have zz1 := HX7.out.fz 1; have zz2 := HX7.out.fz 2; have zz3 := HX7.out.fz 3; have zz4 := HX7.out.fz 4; have zz5 := HX7.out.fz 5; have zz6 := HX7.out.fz 6; have zz7 := HX7.out.fz 7; have zz8 := HX7.out.fz 8; clear hb7) | (have HX7 := Lib.hid (HXS.out.keep hb7); have HN7 := Lib.hid (HNS.out.keep hb7); have HB7 := Lib.hid (grow_to HBS.out hb7); clear hb7)))
      all_goals go_wp2
      exact ret_cfg (c := c) rfl rfl rfl (set9_cells HX7.out) rfl ⟨⟨c, by rw [HRC2.out]; rfl, fun d h => by rw [HRC2.out] at h; injection h⟩, set9_below HB7.out (Nat.le_refl _)⟩
    · have HRC2 : Hid (RH = none) := Lib.hid (by rw [HRC.out, if_neg hok])
      have KCH : Hid (∀ W, Calls Tryz.prog 13 #[.agg #[.int .i64 c.ru, .int .i64 c.le, .int .i64 c.re, .int .i64 c.att, .int .i64 c.wi, .int .i64 c.qu, .int .i64 c.bl, .int .i64 c.ev, .int .i64 c.ha]] W fun e w' => e = .returned (.int .i64 180) ∧ Below W.heap.size W w') := Lib.hid fun W => by
        have k := ccheck_any c W
        rw [if_neg hok] at k
        exact k
      clear HRC hok
      go_region_held3 (fun w' => w'.cell? ⟨NB, 0, none⟩ = some (.int .i64 c.ru) ∧ w'.cell? ⟨NB, 1, none⟩ = some (.int .i64 c.le) ∧ w'.cell? ⟨NB, 2, none⟩ = some (.int .i64 c.re) ∧ w'.cell? ⟨NB, 3, none⟩ = some (.int .i64 c.att) ∧ w'.cell? ⟨NB, 4, none⟩ = some (.int .i64 c.wi) ∧ w'.cell? ⟨NB, 5, none⟩ = some (.int .i64 c.qu) ∧ w'.cell? ⟨NB, 6, none⟩ = some (.int .i64 c.bl) ∧ w'.cell? ⟨NB, 7, none⟩ = some (.int .i64 c.ev) ∧ w'.cell? ⟨NB, 8, none⟩ = some (.int .i64 c.ha)) ((first | (with_reducible exact HKEEP.out _ HN6d.out) | (with_reducible exact HKEEP.out _ HN7.out) | (with_reducible exact HKEEP.out _ HNS.out) | (with_reducible exact HKEEP.out _ (HS9.out _ HN7.out)) | (with_reducible assumption))) ((go_at_call 13; refine (KCH.out _).mono ?_; rintro _ w7 ⟨rfl, hb7⟩; first | (have HX7 := Lib.hid (HX6d.out.keep hb7); have HN7 := Lib.hid (HN6d.out.keep hb7); have HB7 := Lib.hid (grow_to HB6d.out hb7); have z0 : w7.cell? ⟨w.heap.size, 0, none⟩ = some (.int .i64 0) := HX7.out.cell (j := 0) rfl; have z1 : w7.cell? ⟨w.heap.size, 1, none⟩ = some (.int .i64 0) := HX7.out.cell (j := 1) rfl; have z2 : w7.cell? ⟨w.heap.size, 2, none⟩ = some (.int .i64 0) := HX7.out.cell (j := 2) rfl; have z3 : w7.cell? ⟨w.heap.size, 3, none⟩ = some (.int .i64 0) := HX7.out.cell (j := 3) rfl; have z4 : w7.cell? ⟨w.heap.size, 4, none⟩ = some (.int .i64 0) := HX7.out.cell (j := 4) rfl; have z5 : w7.cell? ⟨w.heap.size, 5, none⟩ = some (.int .i64 0) := HX7.out.cell (j := 5) rfl; have z6 : w7.cell? ⟨w.heap.size, 6, none⟩ = some (.int .i64 0) := HX7.out.cell (j := 6) rfl; have z7 : w7.cell? ⟨w.heap.size, 7, none⟩ = some (.int .i64 0) := HX7.out.cell (j := 7) rfl; have z8 : w7.cell? ⟨w.heap.size, 8, none⟩ = some (.int .i64 0) := HX7.out.cell (j := 8) rfl; have zz0 := HX7.out.fz 0; have zz1 := HX7.out.fz 1; have zz2 := HX7.out.fz 2; have zz3 := HX7.out.fz 3; have zz4 := HX7.out.fz 4; have zz5 := HX7.out.fz 5; have zz6 := HX7.out.fz 6; have zz7 := HX7.out.fz 7; have zz8 := HX7.out.fz 8; clear hb7) | (have HX7 := Lib.hid (HXS.out.keep hb7); have HN7 := Lib.hid (HNS.out.keep hb7); have HB7 := Lib.hid (grow_to HBS.out hb7); clear hb7)))
      all_goals go_wp2
      exact ret_cfg (c := c) rfl rfl rfl (set9_cells HX7.out) rfl ⟨⟨c, by rw [HRC2.out]; rfl, fun d h => by rw [HRC2.out] at h; cases h⟩, set9_below HB7.out (Nat.le_refl _)⟩
end Go.Proofs.YtdkencepmdfacaaGreatDoor
