/- wire's fields: what the closures of whole numbers and texts lay and read. -/
import Derived.Test.YtpnfdmglhonkmaaField
set_option maxRecDepth 100000
namespace Go.Proofs.Ytpnfdmglhonkmaa
open Go.RowKit

theorem u64_of {x : Int} (h0 : 0 ≤ x) (h1 : x ≤ 9223372036854775807) : IntKind.u64.wrap x = x := by
  rw [show IntKind.u64.wrap x = x % 18446744073709551616 from by simp [IntKind.wrap, IntKind.bits, IntKind.signed]]
  omega

set_option maxHeartbeats 2000000 in
theorem wholeLay (g b1 k : Nat) (l h : Int) (m : Mg) (w : World) (c1 : Cells w b1 96 #[.func (.func (accI k)) #[] #[]]) (hm : Ms w g m) (h1 : 1 ≤ k) (h6 : k ≤ 6) (h0 : 0 ≤ m.int k) (hx : m.int k ≤ 9223372036854775807) :
    Calls Try.prog 60 #[.pointer (some ⟨g, 0, none⟩), .pointer (some ⟨b1, 0, none⟩)] w fun e w' => e = .returned (.string (str ((Fd.whole k l h).lay m))) ∧ Below w.heap.size w w' := by
  have d1 := c1.cell (j := 0) rfl
  have d4 := acc_int hm h1 h6
  have hlay : (Fd.whole k l h).lay m = vb (m.int k).toNat := rfl
  obtain ⟨n, hn⟩ := Int.eq_ofNat_of_zero_le h0
  rw [hn] at d4 hlay hx
  have HU := Lib.hid (u64_of (x := (n : Int)) (by omega) (by omega))
  have HL := Lib.hid hlay
  clear hlay hn hm c1
  rcases (by omega : k = 1 ∨ k = 2 ∨ k = 3 ∨ k = 4 ∨ k = 5 ∨ k = 6) with rfl | rfl | rfl | rfl | rfl | rfl
  all_goals
    simp only [accI] at d1
    go_enter Try.func60, Try.ntmps60
    go_wp2_with (first | (go_at_call 33; refine (acc1_any _ _).mono ?_; rintro x w0 ⟨rfl, rfl⟩) | (go_at_call 34; refine (acc2_any _ _).mono ?_; rintro x w0 ⟨rfl, rfl⟩) | (go_at_call 35; refine (acc3_any _ _).mono ?_; rintro x w0 ⟨rfl, rfl⟩) | (go_at_call 36; refine (acc4_any _ _).mono ?_; rintro x w0 ⟨rfl, rfl⟩) | (go_at_call 38; refine (acc5_any _ _).mono ?_; rintro x w0 ⟨rfl, rfl⟩) | (go_at_call 40; refine (acc6_any _ _).mono ?_; rintro x w0 ⟨rfl, rfl⟩))
    try rw [HU.out]
    refine (Num_any n _ (by omega)).mono ?_
    rintro x w1 ⟨rfl, hb1⟩
    go_wp2
    go_ret
    exact ⟨by rw [HL.out]; rfl, hb1⟩

set_option maxHeartbeats 2000000 in
theorem textLay (g b1 k : Nat) (l h : Int) (m : Mg) (w : World) (c1 : Cells w b1 100 #[.func (.func (accS k)) #[] #[]]) (hm : Ms w g m) (hk : k = 9 ∨ k = 10) (hs : (m.str k).size < 1073741824) :
    Calls Try.prog 63 #[.pointer (some ⟨g, 0, none⟩), .pointer (some ⟨b1, 0, none⟩)] w fun e w' => e = .returned (.string (str ((Fd.text k l h).lay m))) ∧ Below w.heap.size w w' := by
  have d1 := c1.cell (j := 0) rfl
  have d4 := acc_str hm hk
  have hlay : (Fd.text k l h).lay m = tb (m.str k).data.toList := rfl
  have HL := Lib.hid hlay
  clear hlay hm c1
  generalize m.str k = s at d4 hs HL
  rcases hk with rfl | rfl
  all_goals
    simp only [accS] at d1
    go_enter Try.func63, Try.ntmps63
    go_wp2_with (first | (go_at_call 42; refine (acc9_any _ _).mono ?_; rintro x w0 ⟨rfl, rfl⟩) | (go_at_call 43; refine (acc10_any _ _).mono ?_; rintro x w0 ⟨rfl, rfl⟩))
    refine (Text_any s _ (by omega)).mono ?_
    rintro x w1 ⟨rfl, hb1⟩
    go_wp2
    go_ret
    exact ⟨by rw [HL.out]; rfl, hb1⟩

/-- what a field's reading leaves -/
def FieldRead (g gr : Nat) (b : ByteArray) (s : Mg × Nat × Int) (w : World) (x : Ending) (w' : World) : Prop :=
  x = .returned (.tuple #[]) ∧ Ms w' g s.1 ∧ Rdr w' gr b s.2.1 s.2.2 ∧ Turns [g, gr] w w'

theorem num_bd {l : List UInt8} {most p : Nat} {e over : Int} : 0 ≤ (rdrStep (0 : Int) (upR (numR l most over)) p e).1 ∧ (rdrStep (0 : Int) (upR (numR l most over)) p e).1 ≤ most := by
  unfold rdrStep upR
  split
  · exact ⟨Int.le_refl _, Int.natCast_nonneg _⟩
  · cases hr : numR l most over with
    | error c => exact ⟨Int.le_refl _, Int.natCast_nonneg _⟩
    | ok v =>
      obtain ⟨n, j⟩ := v
      have := (numR_rdv hr).2
      simp only
      omega

theorem Ms.setInt {w : World} {g : Nat} {m : Mg} (h : Ms w g m) {k : Nat} (h1 : 1 ≤ k) (h6 : k ≤ 6) (x : Int) : Ms (w.setCell ⟨g, k, none⟩ (.int .i64 x)) g (m.setInt x k) := by
  rcases (by omega : k = 1 ∨ k = 2 ∨ k = 3 ∨ k = 4 ∨ k = 5 ∨ k = 6) with rfl | rfl | rfl | rfl | rfl | rfl
  · exact Cells.set h 1 _
  · exact Cells.set h 2 _
  · exact Cells.set h 3 _
  · exact Cells.set h 4 _
  · exact Cells.set h 5 _
  · exact Cells.set h 6 _
theorem Ms.setStr {w : World} {g : Nat} {m : Mg} (h : Ms w g m) {k : Nat} (hk : k = 9 ∨ k = 10) (x : ByteArray) : Ms (w.setCell ⟨g, k, none⟩ (.string x)) g (m.setStr x k) := by
  rcases hk with rfl | rfl
  · exact Cells.set h 9 _
  · exact Cells.set h 10 _

theorem i64_of {x : Int} (h0 : 0 ≤ x) (h1 : x ≤ 1099511627776) : IntKind.i64.wrap x = x := IntWalk.i64_in _ (by omega)

set_option maxHeartbeats 2000000 in
theorem wholeRead (g gr b1 k : Nat) (l h : Int) (b : ByteArray) (m : Mg) (p : Nat) (e : Int) (w : World) (c1 : Cells w b1 96 #[.func (.func (accI k)) #[] #[]]) (hm : Ms w g m) (hR : Rdr w gr b p e) (h1 : 1 ≤ k) (h6 : k ≤ 6) (hp : p ≤ b.size) (hb : b.size < 4294967296) :
    Calls Try.prog 61 #[.pointer (some ⟨g, 0, none⟩), .pointer (some ⟨gr, 0, none⟩), .pointer (some ⟨b1, 0, none⟩)] w (FieldRead g gr b ((Fd.whole k l h).read b (m, p, e)) w) := by
  have d1 := c1.cell (j := 0) rfl
  have hne : g ≠ gr := Cells.ne hm hR (by decide)
  have hc := rNum gr b p e 1099511627776 w hR hp hb (by omega)
  have hbd := num_bd (l := b.data.toList.drop p) (most := 1099511627776) (p := p) (e := e) (over := 21)
  have hread : (Fd.whole k l h).read b (m, p, e) = (m.setInt (rdrStep 0 (upR (numR (b.data.toList.drop p) 1099511627776 21)) p e).1 k, (rdrStep 0 (upR (numR (b.data.toList.drop p) 1099511627776 21)) p e).2) := rfl
  generalize rdrStep 0 (upR (numR (b.data.toList.drop p) 1099511627776 21)) p e = R at hc hbd hread
  obtain ⟨v, q, f⟩ := R
  have HV := Lib.hid (i64_of hbd.1 hbd.2)
  have HC := Lib.hid hc
  have HD := Lib.hid hread
  clear hc hread
  have hz := fun w1 (hg : w.grownBy w1 (some gr)) => (show Ms w1 g m from hm.grown hg (by intro he; injection he with he; exact hne he))
  have HZ := Lib.hid hz
  clear hz
  have hfz := fun w1 (hg : w.grownBy w1 (some gr)) => (HZ.out w1 hg).fz k
  have hcz := fun w1 (hg : w.grownBy w1 (some gr)) => acc_int (HZ.out w1 hg) h1 h6
  rcases (by omega : k = 1 ∨ k = 2 ∨ k = 3 ∨ k = 4 ∨ k = 5 ∨ k = 6) with rfl | rfl | rfl | rfl | rfl | rfl
  all_goals
    simp only [accI] at d1
    go_enter Try.func61, Try.ntmps61
    go_wp2_with (first | (go_at_call 33; refine (acc1_any _ _).mono ?_; rintro x w0 ⟨rfl, rfl⟩) | (go_at_call 34; refine (acc2_any _ _).mono ?_; rintro x w0 ⟨rfl, rfl⟩) | (go_at_call 35; refine (acc3_any _ _).mono ?_; rintro x w0 ⟨rfl, rfl⟩) | (go_at_call 36; refine (acc4_any _ _).mono ?_; rintro x w0 ⟨rfl, rfl⟩) | (go_at_call 38; refine (acc5_any _ _).mono ?_; rintro x w0 ⟨rfl, rfl⟩) | (go_at_call 40; refine (acc6_any _ _).mono ?_; rintro x w0 ⟨rfl, rfl⟩))
    refine HC.out.mono ?_
    rintro x w1 ⟨rfl, hR1, hg1⟩
    have f1 := hfz w1 hg1
    have z1 := hcz w1 hg1
    have hmz := HZ.out w1 hg1
    go_wp2
    go_end0
    rw [HD.out]
    exact ⟨rfl, hmz.setInt h1 h6 v, hR1.far (fun he => hne he.symm) _, ((Turns.of_only hg1).mono (fun y hy => .inl (by simp at hy; simp [hy]))).set (.inl (by simp)) _⟩

set_option maxHeartbeats 4000000 in
theorem textRead (g gr b1 b3 k : Nat) (l h : Int) (b : ByteArray) (m : Mg) (p : Nat) (e : Int) (w : World) (c1 : Cells w b1 100 #[.func (.func (accS k)) #[] #[]]) (c3 : Cells w b3 3 #[.int .i64 h]) (hm : Ms w g m) (hR : Rdr w gr b p e) (hk : k = 9 ∨ k = 10) (hh : h ≤ 9223372036854775807) (hp : p ≤ b.size) (hb : b.size < 4294967296) :
    Calls Try.prog 65 #[.pointer (some ⟨g, 0, none⟩), .pointer (some ⟨gr, 0, none⟩), .pointer (some ⟨b3, 0, none⟩), .pointer (some ⟨b1, 0, none⟩)] w (FieldRead g gr b ((Fd.text k l h).read b (m, p, e)) w) := by
  have hne : g ≠ gr := Cells.ne hm hR (by decide)
  have n1 : b1 ≠ gr := Cells.ne c1 hR (by decide)
  have n3 : b3 ≠ gr := Cells.ne c3 hR (by decide)
  have m1 : b1 ≠ g := Cells.ne c1 hm (by decide)
  have m3 : b3 ≠ g := Cells.ne c3 hm (by decide)
  have hread : (Fd.text k l h).read b (m, p, e) = (m.setStr (rdrStep ⟨#[]⟩ (textR (b.data.toList.drop p) h.toNat) p e).1 k, (rdrStep ⟨#[]⟩ (textR (b.data.toList.drop p) h.toNat) p e).2) := rfl
  have hc := fun wx (hx : Rdr wx gr b p e) => rText gr b p e h wx hx hp hb hh
  generalize rdrStep ⟨#[]⟩ (textR (b.data.toList.drop p) h.toNat) p e = R at hc hread
  obtain ⟨v, q, f⟩ := R
  have HC := Lib.hid hc
  have HD := Lib.hid hread
  clear hc hread
  have HZ := Lib.hid fun w1 (hg : w.drew.grownBy w1 (some gr)) => (show Ms w1 g m from (hm.drew).grown hg (by intro he; injection he with he; exact hne he))
  have hfz := fun w1 (hg : w.drew.grownBy w1 (some gr)) => (HZ.out w1 hg).fz k
  have hcz := fun w1 (hg : w.drew.grownBy w1 (some gr)) => acc_str (HZ.out w1 hg) hk
  have HK := Lib.hid fun w1 (hg : w.drew.grownBy w1 (some gr)) => (show w1.cell? ⟨b1, 0, none⟩ = some (.func (.func (accS k)) #[] #[]) ∧ w1.cell? ⟨b3, 0, none⟩ = some (.int .i64 h) from ⟨cell_grown hg (c1.drew.cell rfl) n1, cell_grown hg (c3.drew.cell rfl) n3⟩)
  have d1 : w.drew.cell? ⟨b1, 0, none⟩ = some (.func (.func (accS k)) #[] #[]) := c1.drew.cell rfl
  have d3 : w.drew.cell? ⟨b3, 0, none⟩ = some (.int .i64 h) := c3.drew.cell rfl
  have hRd : Rdr w.drew gr b p e := hR.drew
  have HS := Lib.hid fun w1 (hg : w.drew.grownBy w1 (some gr)) => (show (w1.setCell ⟨g, k, none⟩ (.string v)).cell? ⟨b1, 0, none⟩ = some (.func (.func (accS k)) #[] #[]) ∧ (w1.setCell ⟨g, k, none⟩ (.string v)).cell? ⟨b3, 0, none⟩ = some (.int .i64 h) from ⟨((c1.drew.grown hg (by intro he; injection he with he; exact n1 he)).far m1 _).cell rfl, ((c3.drew.grown hg (by intro he; injection he with he; exact n3 he)).far m3 _).cell rfl⟩)
  clear hR c1 c3
  rcases hk with hk | hk
  · have hk' : k = 9 ∨ k = 10 := by simp [hk]
    subst hk
    simp only [accS] at d1 HK HS
    go_enter Try.func65, Try.ntmps65
    go_region_held3 (fun w' => w'.cell? ⟨b1, 0, none⟩ = some (.func (.func 42) #[] #[]) ∧ w'.cell? ⟨b3, 0, none⟩ = some (.int .i64 h)) ((first | exact ⟨d1, d3⟩ | assumption | exact HK.out _ (by assumption) | exact HS.out _ (by assumption)))
      (first | (go_at_call 42; refine (acc9_any _ _).mono ?_; rintro x w0 ⟨rfl, rfl⟩) | (go_at_call 43; refine (acc10_any _ _).mono ?_; rintro x w0 ⟨rfl, rfl⟩) | (go_at_call 66; refine (HC.out _ (by assumption)).mono ?_; rintro x w1 ⟨rfl, hR1, hg1⟩; have f1 := hfz w1 hg1; have z1 := hcz w1 hg1; have hmz := HZ.out w1 hg1))
    all_goals
      go_end0
      rw [HD.out]
      exact ⟨rfl, hmz.setStr (by first | exact .inl rfl | exact .inr rfl) v, hR1.far (fun he => hne he.symm) _, ((Turns.of_only (⟨hg1.os, hg1.tape, hg1.output, hg1.size, hg1.block⟩ : w.grownBy w1 (some gr))).mono (fun y hy => .inl (by simp at hy; simp [hy]))).set (.inl (by simp)) _⟩
  · have hk' : k = 9 ∨ k = 10 := by simp [hk]
    subst hk
    simp only [accS] at d1 HK HS
    go_enter Try.func65, Try.ntmps65
    go_region_held3 (fun w' => w'.cell? ⟨b1, 0, none⟩ = some (.func (.func 43) #[] #[]) ∧ w'.cell? ⟨b3, 0, none⟩ = some (.int .i64 h)) ((first | exact ⟨d1, d3⟩ | assumption | exact HK.out _ (by assumption) | exact HS.out _ (by assumption)))
      (first | (go_at_call 42; refine (acc9_any _ _).mono ?_; rintro x w0 ⟨rfl, rfl⟩) | (go_at_call 43; refine (acc10_any _ _).mono ?_; rintro x w0 ⟨rfl, rfl⟩) | (go_at_call 66; refine (HC.out _ (by assumption)).mono ?_; rintro x w1 ⟨rfl, hR1, hg1⟩; have f1 := hfz w1 hg1; have z1 := hcz w1 hg1; have hmz := HZ.out w1 hg1))
    all_goals
      go_end0
      rw [HD.out]
      exact ⟨rfl, hmz.setStr (by first | exact .inl rfl | exact .inr rfl) v, hR1.far (fun he => hne he.symm) _, ((Turns.of_only (⟨hg1.os, hg1.tape, hg1.output, hg1.size, hg1.block⟩ : w.grownBy w1 (some gr))).mono (fun y hy => .inl (by simp at hy; simp [hy]))).set (.inl (by simp)) _⟩

end Go.Proofs.Ytpnfdmglhonkmaa
