/- gafferlaw05.spoil (contract): it writes its own row alone. The document's Has of any op. -/
import Derived.RangeFuncBox
import Derived.Test.YtiidkgdlngcpgaaGreatDoorPr
import Derived.Test.YtiidkgdlngcpgaaGreatDoorPz
import Derived.Test.YtiidkgdlngcpgaaGreatDoorKr5
set_option maxRecDepth 100000
namespace Go.Proofs.YtiidkgdlngcpgaaGreatDoor
open Go.RowKit

theorem rhas0_any {o : Nat} (ho : o < 25) (w : World) : Calls Tryz.prog 47 #[.int .i64 (o : Nat)] w fun e w' => e = .returned (.tuple #[.int .i64 (opRegs o), .bool (opN o), .bool (opK o)]) ∧ w' = w := by
  rcases o with _ | o
  · exact calls_run 1000 (fn := Tryz.f47) Tryz.func47 (fun cs => by kernel_rfl)
  · exact rhas_any (by omega) ho w
theorem cell3 {w : World} {g : Nat} {t : TypeId} {a b c : Value} (h : Cells w g t #[a, b, c]) (i : Nat) (hi : i < 3) : ∃ v, w.cell? ⟨g, i, none⟩ = some v := by
  rcases i with _ | _ | _ | i
  · exact ⟨_, h.cell (j := 0) rfl⟩
  · exact ⟨_, h.cell (j := 1) rfl⟩
  · exact ⟨_, h.cell (j := 2) rfl⟩
  · omega
/-- a row of the call's own, whatever it holds -/
def RowX (w : World) (base : Nat) (v : Value) (n : Nat) : Prop := ∃ xs, w.ownsRow base 43 6 v n xs
section
variable {w w' : World} {base n cap g : Nat} {v : Value}
theorem RowI.any {l : List Ins} (h : RowI w base v l) : RowX w base v l.length := ⟨_, h⟩
theorem RowX.shape (h : RowX w base v n) : ∃ A cap, v = .slice A n cap := by
  obtain ⟨xs, h⟩ := h
  rcases h.2 with ⟨rfl, h0⟩ | ⟨g, cap, cur, rfl, _⟩
  · exact ⟨none, 0, by rw [h0]⟩
  · exact ⟨_, _, rfl⟩
theorem RowX.form {A : Option Addr} (h : RowX w base (.slice A n cap) n) (hn : 0 < n) : ∃ g, A = some ⟨g, 0, none⟩ ∧ base ≤ g ∧ g < w.heap.size := by
  obtain ⟨xs, h⟩ := h
  have hl := h.lt
  rcases h.2 with ⟨_, h0⟩ | ⟨g, cap', cur, h1, _⟩
  · omega
  · injection h1 with h1 h2 h3
    subst h1
    have := hl g rfl
    exact ⟨g, rfl, this.1, this.2⟩
theorem RowX.ne {t : TypeId} {c : Array Value} (h : RowX w base v n) (hc : Cells w g t c) (ht : t ≠ 43) : ∀ k, v.ownBlock = some k → k ≠ g := fun k hk e => by
  subst e
  obtain ⟨xs, h⟩ := h
  obtain ⟨cur, hcur⟩ := own_block_type h hk
  unfold Cells at hc
  rw [hcur] at hc
  injection hc with hc
  injection hc with h1 h2
  exact ht h2.symm
theorem RowX.cellAt (h : RowX w base (.slice (some ⟨g, 0, none⟩) n cap) n) (j : Nat) (hj : j < n * 6) : ∃ u, w.cell? ⟨g, j, none⟩ = some u := by
  obtain ⟨xs, h⟩ := h
  rw [h.cellAt j hj]
  exact ⟨_, List.getElem?_eq_getElem (by rw [h.1]; exact hj)⟩
theorem RowX.fz (h : RowX w base (.slice (some ⟨g, 0, none⟩) n cap) n) (j : Nat) : w.frozen? ⟨g, j, none⟩ = false := by
  obtain ⟨xs, h⟩ := h
  exact h.frozenAt j
theorem RowX.set (h : RowX w base (.slice (some ⟨g, 0, none⟩) n cap) n) (j : Nat) (u : Value) : RowX (w.setCell ⟨g, j, none⟩ u) base (.slice (some ⟨g, 0, none⟩) n cap) n := by
  obtain ⟨xs, h⟩ := h
  exact ⟨_, (h.stored j u).1⟩
theorem RowX.set6 (h : RowX w base (.slice (some ⟨g, 0, none⟩) n cap) n) (k : Nat) (a b c d e f : Value) :
    RowX ((((((w.setCell ⟨g, k, none⟩ a).setCell ⟨g, k + 1, none⟩ b).setCell ⟨g, k + 2, none⟩ c).setCell ⟨g, k + 3, none⟩ d).setCell ⟨g, k + 4, none⟩ e).setCell ⟨g, k + 5, none⟩ f) base (.slice (some ⟨g, 0, none⟩) n cap) n :=
  (((((h.set _ a).set _ b).set _ c).set _ d).set _ e).set _ f
theorem far6 {x k : Nat} {t : TypeId} {cs : Array Value} {a b c d e f : Value} (h : Cells w g t cs) (hne : g ≠ x) :
    Cells ((((((w.setCell ⟨x, k, none⟩ a).setCell ⟨x, k + 1, none⟩ b).setCell ⟨x, k + 2, none⟩ c).setCell ⟨x, k + 3, none⟩ d).setCell ⟨x, k + 4, none⟩ e).setCell ⟨x, k + 5, none⟩ f) g t cs :=
  (((((h.far (a := ⟨x, k, none⟩) hne _).far (a := ⟨x, k + 1, none⟩) hne _).far (a := ⟨x, k + 2, none⟩) hne _).far (a := ⟨x, k + 3, none⟩) hne _).far (a := ⟨x, k + 4, none⟩) hne _).far (a := ⟨x, k + 5, none⟩) hne _
theorem below6 {w0 : World} {x k B : Nat} {a b c d e f : Value} (h : Below B w0 w) (hx : B ≤ x) :
    Below B w0 ((((((w.setCell ⟨x, k, none⟩ a).setCell ⟨x, k + 1, none⟩ b).setCell ⟨x, k + 2, none⟩ c).setCell ⟨x, k + 3, none⟩ d).setCell ⟨x, k + 4, none⟩ e).setCell ⟨x, k + 5, none⟩ f) :=
  (((((h.setCell hx a).setCell hx b).setCell hx c).setCell hx d).setCell hx e).setCell hx f
end

set_option maxHeartbeats 4000000 in
set_option maxRecDepth 100000 in
theorem spoil_any (fuel : Int) (A : Option Addr) (n cap base : Nat) (w : World) (hW : RowX w base (.slice A n cap) n) (hb : base ≤ w.heap.size) (hn : n < 1073741820) :
    Calls Tryz.prog 20 #[.agg #[.int .i64 fuel, .slice A n cap]] w fun e w' => e = .returned (.tuple #[]) ∧ Below base w w' := by
  obtain ⟨i0, hi, hz0, hz1, hz2⟩ := info_parts ins_info
  have HX := Lib.hid (Cells.new w 24 #[.int .i64 fuel, .slice A n cap])
  have HB := Lib.hid ((Below.refl base w).alloc hb (.cells #[.int .i64 fuel, .slice A n cap] 24))
  have HW : Hid (RowX (w.alloc (.cells #[.int .i64 fuel, .slice A n cap] 24)) base (.slice A n cap) n) := Lib.hid (by obtain ⟨xs, h⟩ := hW; exact ⟨xs, h.alloc _⟩)
  clear hW
  go_enter Tryz.func20, Tryz.ntmps20
  go_upto_region 1 with fail
  generalize w.alloc (.cells #[.int .i64 fuel, .slice A n cap] 24) = w1 at *
  generalize w.heap.size = PB at *
  go_wp2
  go_loopw [2] (fun iv wr => ∃ i : Nat, i ≤ n ∧ iv = .int .i64 (i : Int) ∧ Cells wr PB 24 #[.int .i64 fuel, .slice A n cap] ∧ RowX wr base (.slice A n cap) n ∧ Below base w wr) (fun iv _ => n - (intOf iv).toNat)
  case atStart => exact ⟨0, Nat.zero_le _, rfl, HX.out, HW.out, HB.out⟩
  case round =>
    obtain ⟨i, hi2, rfl, hX, hR, hB⟩ := hrel
    have HXR := Lib.hid hX
    have HRR := Lib.hid hR
    have HBR := Lib.hid hB
    have p1 : wr.cell? ⟨PB, 1, none⟩ = some (.slice A n cap) := hX.cell (j := 1) rfl
    clear hX hR hB HX HW HB
    by_cases hlt : i < n
    · obtain ⟨g, rfl, hg1, hg2⟩ := HRR.out.form (by omega)
      have HNE := Lib.hid (show PB ≠ g from (HRR.out.ne HXR.out (by decide) g rfl).symm)
      have HG1 := Lib.hid hg1
      have hj : i * 6 + 6 ≤ n * 6 := by omega
      obtain ⟨u0, c0⟩ := HRR.out.cellAt (i * 6) (by omega)
      obtain ⟨u1, c1⟩ := HRR.out.cellAt (i * 6 + 1) (by omega)
      obtain ⟨u2, c2⟩ := HRR.out.cellAt (i * 6 + 2) (by omega)
      obtain ⟨u3, c3⟩ := HRR.out.cellAt (i * 6 + 3) (by omega)
      obtain ⟨u4, c4⟩ := HRR.out.cellAt (i * 6 + 4) (by omega)
      obtain ⟨u5, c5⟩ := HRR.out.cellAt (i * 6 + 5) (by omega)
      have z0 := HRR.out.fz (i * 6)
      have z1 := HRR.out.fz (i * 6 + 1)
      have z2 := HRR.out.fz (i * 6 + 2)
      have z3 := HRR.out.fz (i * 6 + 3)
      have z4 := HRR.out.fz (i * 6 + 4)
      have z5 := HRR.out.fz (i * 6 + 5)
      have i0' : (0 : Int) ≤ i := by omega
      have i1 : (i : Int) < n := by omega
      have hwi : wrap64 ((i : Int) + 1) = (i : Int) + 1 := by unfold wrap64; omega
      have HLT := Lib.hid (show i + 1 ≤ n ∧ i < n from ⟨hlt, hlt⟩)
      clear hj hg1 hg2 hlt hi2
      go_wp2
      refine ⟨⟨i + 1, HLT.out.1, by first | exact up_val hwi | rfl, far6 HXR.out HNE.out, HRR.out.set6 (i * 6) _ _ _ _ _ _, below6 HBR.out HG1.out⟩, by first | exact up_end HLT.out.2 hwi | (have hh := HLT.out; simp [intOf]; omega)⟩
    · obtain rfl : i = n := by omega
      have i1 : ¬ (i : Int) < i := by omega
      obtain ⟨xs, hxs⟩ := HRR.out
      have HOW := Lib.hid hxs
      have hwp : wrap64 (i : Int) = (i : Int) := by unfold wrap64; omega
      have i5 : (0 : Int) ≤ i := by omega
      have i6 : (i : Int) < (i : Int) + 1 := by omega
      have HIN := Lib.hid (show i < 1073741824 from by omega)
      have HSB := Lib.hid (show base ≤ wr.heap.size from Nat.le_of_lt (Nat.lt_of_le_of_lt hb HXR.out.lt))
      clear hxs hn hi2 hlt
      go_wp2_with (at_builtin; go_loud (refine wpList_append_elem' rfl _ _ _ rfl base 43 i0 _ 6 48 Tryz.underlying22 hi hz0 hz1 hz2 rfl (by decide) (.slice A i cap) i xs rfl HOW.out #[.int .i64 (-9), .int .i64 0, .int .i64 0, .int .i64 0, .int .i64 0, .int .u64 0] rfl (by simp [Value.oneCell']) _ rfl rfl HIN.out (by decide) HSB.out ?_); intro v' w9 hown hgrow hat; obtain ⟨g', cap', rfl⟩ := ownsRow_succ hown; have HR9 : Hid (RowX w9 base (.slice (some ⟨g', 0, none⟩) (i + 1) cap') (i + 1)) := Lib.hid ⟨_, hown⟩; have HB9 := Lib.hid (HBR.out.grown hgrow HSB.out (fun k hk => (World.ownsRow.lt HOW.out k hk).1)); obtain ⟨u4, c4⟩ := HR9.out.cellAt (i * 6 + 4) (by omega); have z4 := HR9.out.fz (i * 6 + 4); have HG9 := Lib.hid (hown.lt g' rfl).1; clear hown hgrow hat)
      go_end0
      exact ⟨rfl, HB9.out.setCell HG9.out _⟩
end Go.Proofs.YtiidkgdlngcpgaaGreatDoor
