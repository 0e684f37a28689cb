/- The document's Step whatever the instruction, its New (contracts). -/
import Derived.Test.YtjloiclbknfomaaGreatDoorKrs
import Derived.Test.YtjloiclbknfomaaGreatDoorKw
set_option maxRecDepth 100000
namespace Go.Proofs.YtjloiclbknfomaaGreatDoor
open Go.RowKit Ieee

theorem rstep_any {w : World} {g : Nat} {cs nv pv : Value} {m : Mach} (hR : Rw w g cs nv pv m) (hF : m.Fit) (hG : m.Goes) (ho : m.over = false) :
    Calls Tryz.prog 17 #[.pointer (some ⟨g, 0, none⟩)] w fun e w' => ∃ nv' pv', e = .returned (.tuple #[.int .i64 (stepM m).2.1, bstr (stepM m).2.2, .int .i64 0]) ∧ Anew w nv nv' ∧ Anew w pv pv' ∧ Rw w' g cs nv' pv' (stepM m).1 ∧ Turns (mOwn g nv pv) w w' := by
  obtain ⟨x, hx⟩ : ∃ x, m.code.getD m.at_ default = x := ⟨_, rfl⟩
  have hok := (code_get hF (hG ho).1).2.1
  rw [hx] at hok
  rw [headM_step hx hok.op.1]
  obtain ⟨a, ea⟩ := Int.eq_ofNat_of_zero_le hok.a.1
  obtain ⟨b, eb⟩ := Int.eq_ofNat_of_zero_le hok.b.1
  obtain ⟨c, ec⟩ := Int.eq_ofNat_of_zero_le hok.c.1
  obtain ⟨op, xa, xb, xc, n, k⟩ := x
  dsimp only at ea eb ec
  subst ea eb ec
  exact rstep_on hR hF hG ho hx rfl
theorem rstep_over {w : World} {g : Nat} {cs nv pv : Value} {m : Mach} (hR : Rw w g cs nv pv m) (ho : m.over = true) :
    Calls Tryz.prog 17 #[.pointer (some ⟨g, 0, none⟩)] w fun e w' => e = .returned (.tuple #[.int .i64 0, .string ⟨#[]⟩, .int .i64 60]) ∧ w' = w := by
  have r16 : w.cell? ⟨g, 16, none⟩ = some (.bool m.over) := hR.cells.cell (j := 16) rfl
  rw [ho] at r16
  clear hR ho
  go_enter Tryz.func17, Tryz.ntmps17
  go_wp2
  go_ret3
  exact ⟨rfl, rfl⟩

theorem rnew_bad {fuel : Int} {A : Option Addr} {l : List Ins} {cap : Nat} (w : World) (hC : CodeIn w w.heap.size A l) (hne : (progCheck fuel l).1 ≠ 0) :
    Calls Tryz.prog 10 #[.agg #[.int .i64 fuel, .slice A l.length cap]] w fun e w' => e = .returned (.tuple #[.pointer none, .int .i64 (progCheck fuel l).1]) ∧ Below w.heap.size w w' := by
  have kc := fun W (hW : CodeIn W W.heap.size A l) => rcheck_any fuel A l cap W hW
  have HC := Lib.hid ((hC.keep ((Below.refl _ _).alloc (Nat.le_refl _) (.cells #[.int .i64 fuel, .slice A l.length cap] 24))).more (B' := (w.alloc (.cells #[.int .i64 fuel, .slice A l.length cap] 24)).heap.size) (by simp))
  have t1 : ((progCheck fuel l).1 == 0) = false := by rw [beq_eq_false_iff_ne]; exact hne
  have t2 : ((progCheck fuel l).1 != 0) = true := by simp [bne, t1]
  clear hC hne
  generalize progCheck fuel l = pc at *
  generalize pc.1 = p1 at *
  go_enter Tryz.func10, Tryz.ntmps10
  go_wp2_with (go_at_call 28; with_reducible (refine (kc _ HC.out).mono ?_); rintro _ w2 ⟨rfl, hb⟩; have HB := Lib.hid hb; clear hb)
  go_ret2
  exact ⟨rfl, grow_to ((Below.refl _ _).alloc (Nat.le_refl _) _) HB.out⟩

set_option maxHeartbeats 1000000 in
theorem rnew_good {fuel : Nat} {A : Option Addr} {l : List Ins} {cap : Nat} (w : World) (hC : CodeIn w w.heap.size A l) (hne : (progCheck fuel l).1 = 0) :
    Calls Tryz.prog 10 #[.agg #[.int .i64 (fuel : Nat), .slice A l.length cap]] w fun e w' => ∃ g cs, e = .returned (.tuple #[.pointer (some ⟨g, 0, none⟩), .int .i64 0]) ∧ w.heap.size ≤ g ∧ Rw w' g cs (.slice none 0 0) (.slice none 0 0) (newM fuel l) ∧ Below w.heap.size w w' := by
  have kc := fun W (hW : CodeIn W W.heap.size A l) => rcheck_any fuel A l cap W hW
  have HC0 := Lib.hid hC
  have HC := Lib.hid ((hC.keep ((Below.refl _ _).alloc (Nat.le_refl _) (.cells #[.int .i64 (fuel : Nat), .slice A l.length cap] 24))).more (B' := (w.alloc (.cells #[.int .i64 (fuel : Nat), .slice A l.length cap] 24)).heap.size) (by simp))
  obtain ⟨hf, hl, hok⟩ := progCheck_ok hne
  have hl0 : 0 < l.length := by omega
  obtain ⟨b, off, rfl, hbl, hcl⟩ := hC hl0
  obtain ⟨i1, hq1, hz1, hsz1, hby1⟩ := info_ins
  rw [hne] at kc
  have HX0 := Lib.hid (Cells.new w 24 #[.int .i64 (fuel : Nat), .slice (some ⟨b, off, none⟩) l.length cap])
  have HB0 := Lib.hid ((Below.refl w.heap.size w).alloc (Nat.le_refl _) (.cells #[.int .i64 (fuel : Nat), .slice (some ⟨b, off, none⟩) l.length cap] 24))
  have HI := Lib.hid (fun (W : World) (hW : Below w.heap.size w W) => code_cells (w := W) (b := b) (off := off) (l := l) fun i x hx => (hcl i x hx).1.keep hW hbl)
  have HO := Lib.hid (flat_one l)
  have HL := Lib.hid (flat_len l)
  have HL64 := Lib.hid hl
  clear hC hne hf hl hok hl0 hcl
  generalize (progCheck fuel l).2 = p2 at *
  go_enter Tryz.func10, Tryz.ntmps10
  go_upto_region 4 with (go_at_call 28; with_reducible (refine (kc _ HC.out).mono ?_); rintro _ w2 ⟨rfl, hb⟩; have HX2 := Lib.hid (Cells.keep HX0.out hb); have HB2 := Lib.hid (grow_to HB0.out hb); clear hb)
  go_upto_region 5 with fail
  have hrow : (w2.alloc (.cells #[] 77)).ownsRow w2.heap.size 77 6 (.slice (some ⟨w2.heap.size, 0, none⟩) 0 0) 0 [] := World.ownsRow_made w2 #[] 0 (Nat.le_refl _) (by decide) (by simp)
  have HR := Lib.hid hrow
  have HB3 := Lib.hid (HB2.out.alloc HB2.out.size (.cells #[] 77))
  have HX3 := Lib.hid (HX2.out.alloc (.cells #[] 77))
  have HLT := Lib.hid HX2.out.lt
  have hws : Hid (w2.heap.size ≤ (w2.alloc (.cells #[] 77)).heap.size) := Lib.hid (by simp)
  clear hrow HX2 HB2 kc HC
  generalize w2.alloc (.cells #[] 77) = w3 at *
  generalize w2.heap.size = B2 at *
  have HN := Lib.hid (HI.out w3 HB3.out)
  have c1 : w3.cell? ⟨w.heap.size, 1, none⟩ = some (.slice (some ⟨b, off, none⟩) l.length cap) := HX3.out.cell (j := 1) rfl
  go_upto_region 6 with (at_builtin; refine wpList_append_own_at _ rfl _ _ _ rfl w.heap.size 77 i1 _ 6 48 Tryz.underlying22 hq1 hz1 hsz1 hby1 rfl (by decide) _ 0 [] rfl (HR.out.mono (by have := HLT.out; omega)) ⟨b, off, none⟩ l.length cap (l.flatMap Ins.cells) rfl HL.out HN.out HO.out (by have := HL64.out; unfold maxLen; omega) (by have := HL64.out; omega) (by have := HB3.out.size; omega) ?_; intro v' W4 ho hgr hlt hat; have HOO := Lib.hid (show W4.ownsRow w.heap.size 77 6 v' l.length (l.flatMap Ins.cells) by simpa using ho); have HGR := Lib.hid (show w3.grownBy W4 (some B2) from hgr); have HX4 := Lib.hid (cells_grown hgr (HR.out.mono (by have := HLT.out; omega) : w3.ownsRow w.heap.size _ _ _ _ _) HX3.out (by decide)); have d0 : W4.cell? ⟨w.heap.size, 0, none⟩ = some (.int .i64 (fuel : Nat)) := HX4.out.cell (j := 0) rfl; have d1 : W4.cell? ⟨w.heap.size, 1, none⟩ = some (.slice (some ⟨b, off, none⟩) l.length cap) := HX4.out.cell (j := 1) rfl; have f1 := HX4.out.fz 1; obtain ⟨Ak, capk, rfl⟩ := own_slice HOO.out; clear ho hgr hlt hat)
  go_wp2
  go_ret2
  have hset : Turns [w.heap.size] W4 (W4.setCell ⟨w.heap.size, 1, none⟩ (.slice Ak l.length capk)) := (Turns.refl _ _).set (.inl (by simp)) _
  have hrow := (row_turns HOO.out hset (fun k hk => by simpa using own_ne_block HOO.out HX4.out (by decide) k hk)).mono (Nat.zero_le _)
  have hb4 : Below w.heap.size w W4 := HB3.out.grown HGR.out HB3.out.size fun k hk => by
    injection hk with hk
    have := HLT.out
    omega
  have hbs : Below w.heap.size w (W4.setCell ⟨w.heap.size, 1, none⟩ (.slice Ak l.length capk)) := hb4.setCell (Nat.le_refl _) _
  refine ⟨W4.heap.size, .slice Ak l.length capk, by first | rfl | simp [World.setCell], hb4.size, ?_, ?_⟩
  · first
      | exact ⟨Cells.newAt _ _ _ _ (by simp [World.setCell]), hrow.alloc _, World.ownsRow_nil _ _ _ _, World.ownsRow_nil _ _ _ _⟩
  · first
      | exact hbs.alloc hbs.size _

end Go.Proofs.YtjloiclbknfomaaGreatDoor
