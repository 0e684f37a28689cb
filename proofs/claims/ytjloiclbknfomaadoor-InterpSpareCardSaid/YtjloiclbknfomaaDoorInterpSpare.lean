/- InterpSpare: what is never done makes no difference: as a row and as a card. -/
import Derived.Test.YtjloiclbknfomaaDoorKv
import Derived.Test.YtjloiclbknfomaaDoorKh
import Derived.Test.YtjloiclbknfomaaDoorKns
import Derived.Test.YtjloiclbknfomaaDoorKarr
import Derived.Test.YtjloiclbknfomaaDoorKo
set_option maxRecDepth 100000
namespace Go.Proofs.YtjloiclbknfomaaDoor.interpSpare
open Go.RowKit Go.WideShapes Go.ChangeShapes Go.ChangeAt Ieee

set_option maxHeartbeats 4000000 in
set_option maxRecDepth 100000 in
theorem walk_bad {fuel : Int} {A : Option Addr} {l : List Ins} {cap : Nat} {mv : Value} (w : World) (hC : CodeIn w w.heap.size A l) (hT : ∀ wz, Below w.heap.size w wz → TabsAt wz) (hne : (progCheck fuel l).1 ≠ 0) :
    Calls Tryd.prog 6 #[.agg #[.int .i64 fuel, .slice A l.length cap], mv] w fun e w' => e = .returned (.bool true) ∧ Below w.heap.size w w' := by
  have HB1 := Lib.hid ((Below.refl w.heap.size w).alloc (Nat.le_refl _) (.cells #[.int .i64 fuel, .slice A l.length cap] 24))
  have HP1 := Lib.hid (Cells.new w 24 #[.int .i64 fuel, .slice A l.length cap])
  have KN := Lib.hid (fun W (hW : Below w.heap.size w W) => new_bad (fuel := fuel) (cap := cap) W ((hC.keep hW).more hW.size) hne)
  have KW := Lib.hid (fun W (hW : Below w.heap.size w W) => whole_bad (fuel := fuel) (cap := cap) W ((hC.keep hW).more hW.size) hne)
  have KA := Lib.hid (fun W (hW : Below w.heap.size w W) => awake_any W (tabs_later hT hW))
  have t1 : ((progCheck fuel l).1 == 0) = false := by rw [beq_eq_false_iff_ne]; exact hne
  have t2 : ((progCheck fuel l).1 != 0) = true := by simp [bne, t1]
  clear hC hT hne
  generalize (progCheck fuel l).1 = pe at *
  go_enter Tryd.func6, Tryd.ntmps6
  go_wp2_with (first | (go_at_call 7; go_loud (refine (KN.out _ HB1.out).mono ?_); rintro _ w1 ⟨rfl, hb1⟩; have HBn := Lib.hid (grow_to HB1.out hb1); have p0 := (Cells.keep HP1.out hb1).cell (j := 0) rfl; have p1 := (Cells.keep HP1.out hb1).cell (j := 1) rfl; clear hb1) | (go_at_call 8; go_loud (refine (KW.out _ HBn.out).mono ?_); rintro _ w2 ⟨rfl, hb2⟩; have HB2 := Lib.hid ((grow_to HBn.out hb2).alloc (grow_to HBn.out hb2).size (.cells #[.int .i64 0, .int .u64 0, .slice none 0 0, .slice none 0 0, .int .i64 0] 35)); clear hb2) | (go_at_call 9; go_loud (refine (KA.out _ HB2.out).mono ?_); rintro _ w3 ⟨rfl, hb3⟩; have HB3 := Lib.hid (grow_to HB2.out hb3); clear hb3))
  go_ret
  exact ⟨by first | rfl | simp, HB3.out⟩
theorem meas_dec {D k : Nat} (h : k < D) (hD : D ≤ 1024) : D - (intOf (.int .i64 (wrap64 ((k : Int) + 1)))).toNat < D - (intOf (.int .i64 (k : Int))).toNat ∧ D - (intOf (.int .i64 ((k : Int) + 1))).toNat < D - (intOf (.int .i64 (k : Int))).toNat := by
  have e : wrap64 ((k : Int) + 1) = (k : Int) + 1 := by unfold wrap64; omega
  rw [e]
  constructor
  all_goals
    simp [intOf]; omega
theorem mOwn_ge {B g : Nat} {nv pv : Value} (hg : B ≤ g) (hn : ∀ k, nv.ownBlock = some k → B ≤ k) (hp : ∀ k, pv.ownBlock = some k → B ≤ k) : ∀ x, x ∈ mOwn g nv pv → B ≤ x := by
  intro x hx
  unfold mOwn at hx
  rcases List.mem_cons.1 hx with rfl | hx
  · exact hg
  rcases List.mem_append.1 hx with hx | hx
  · cases h : nv.ownBlock with
    | none => rw [h] at hx; cases hx
    | some k =>
      rw [h] at hx
      simp at hx
      exact hx ▸ hn k h
  · cases h : pv.ownBlock with
    | none => rw [h] at hx; cases hx
    | some k =>
      rw [h] at hx
      simp at hx
      exact hx ▸ hp k h
theorem anew_ge {w : World} {nv nv' : Value} {B : Nat} (h : Anew w nv nv') (hB : B ≤ w.heap.size) (hn : ∀ k, nv.ownBlock = some k → B ≤ k) : ∀ k, nv'.ownBlock = some k → B ≤ k := by
  intro k hk
  rcases h with h | ⟨j, hj, hl⟩
  · exact hn k (h ▸ hk)
  · rw [hk] at hj
    injection hj with hj
    omega
theorem code_of_row {w : World} {base : Nat} {A : Option Addr} {cap : Nat} {l : List Ins} (h : w.ownsRow base 52 6 (.slice A l.length cap) l.length (l.flatMap Ins.cells)) (hk : ∀ x ∈ l, x.k < 2 * signB) : CodeIn w w.heap.size A l := by
  intro hn
  have h0 := World.ownsRow.mono h (Nat.zero_le base)
  obtain ⟨b, e, _, hb, _⟩ := code_at h0 (List.getElem?_eq_getElem hn)
  refine ⟨b, 0, e, hb, fun i x hx => ?_⟩
  obtain ⟨b', e', _, _, hi⟩ := code_at h0 hx
  rw [e] at e'
  injection e' with e'
  injection e' with e'
  subst e'
  exact ⟨by rw [Nat.zero_add]; exact hi, hk x (List.mem_of_getElem? hx)⟩
theorem spare_step {w wa W4 : World} {Bq Bd Bo n : Nat} {F qv v' : Value} {PV O1 DV : Array Value} {xs us : List Value} (hZ : Cells wa Bq 24 #[F, qv]) (hR : wa.ownsRow w.heap.size 52 6 qv n xs) (hD : Cells wa Bd 54 DV) (hP : Cells wa w.heap.size 24 PV) (hO : Cells wa Bo 35 O1) (hB : Below w.heap.size w wa) (hlt : w.heap.size < Bq)
    (ho : W4.ownsRow w.heap.size 52 6 v' (n + 1) (xs ++ us)) (hgr : wa.grownBy W4 qv.ownBlock) :
    Cells (W4.setCell ⟨Bq, 1, none⟩ v') Bq 24 #[F, v'] ∧ (W4.setCell ⟨Bq, 1, none⟩ v').ownsRow w.heap.size 52 6 v' (n + 1) (xs ++ us) ∧ Cells (W4.setCell ⟨Bq, 1, none⟩ v') Bd 54 DV ∧ Cells (W4.setCell ⟨Bq, 1, none⟩ v') w.heap.size 24 PV ∧ Cells (W4.setCell ⟨Bq, 1, none⟩ v') Bo 35 O1 ∧ Below w.heap.size w (W4.setCell ⟨Bq, 1, none⟩ v') := by
  have hZ4 := cells_grown hgr hR hZ (by decide)
  have hD4 := cells_grown hgr hR hD (by decide)
  have hP4 := cells_grown hgr hR hP (by decide)
  have hO4 := cells_grown hgr hR hO (by decide)
  have hts : Turns [Bq] W4 (W4.setCell ⟨Bq, 1, none⟩ v') := (Turns.refl _ _).set (.inl (by simp)) _
  have hBW4 : Below w.heap.size w W4 := hB.grown hgr hB.size fun k hk => (hR.lt k hk).1
  exact ⟨hZ4.set 1 v', row_turns ho hts (fun k hk => by simpa using own_ne_block ho hZ4 (by decide) k hk), hD4.turns hts (by simpa using block_ne hD4 hZ4 (by decide)), hP4.turns hts (by simp; omega), hO4.turns hts (by simpa using block_ne hO4 hZ4 (by decide)), hBW4.setCell (p := ⟨Bq, 1, none⟩) (Nat.le_of_lt hlt) v'⟩
/-- how the world stands behind so many steps -/
def VisAt (w wr : World) (g : Nat) (cs : Value) (f : Nat) (l : List Ins) (Bd Bo : Nat) (PV O1 : Array Value) (n : Nat) : Prop :=
  ∃ nv pv, Mw wr g cs nv pv (runM n (newM f l)).1 ∧ (∀ k, nv.ownBlock = some k → w.heap.size ≤ k) ∧ (∀ k, pv.ownBlock = some k → w.heap.size ≤ k) ∧ Cells wr Bd 54 (boolsOf (doneTo f l n)) ∧ Cells wr w.heap.size 24 PV ∧ Cells wr Bo 35 O1 ∧ Below w.heap.size w wr
set_option maxHeartbeats 40000000 in
set_option maxRecDepth 100000 in
theorem walk_good {f : Nat} {A Am : Option Addr} {l more : List Ins} {cap capm : Nat} (w : World) (hC : CodeIn w w.heap.size A l) (hCm : CodeIn w w.heap.size Am more) (hT : ∀ wz, Below w.heap.size w wz → TabsAt wz) (hok : (progCheck f l).1 = 0) :
    Calls Tryd.prog 6 #[.agg #[.int .i64 (f : Nat), .slice A l.length cap], .slice Am more.length capm] w fun e w' => e = .returned (.bool true) ∧ Below w.heap.size w w' := by
  have HB1 := Lib.hid ((Below.refl w.heap.size w).alloc (Nat.le_refl _) (.cells #[.int .i64 (f : Nat), .slice A l.length cap] 24))
  have HP1 := Lib.hid (Cells.new w 24 #[.int .i64 (f : Nat), .slice A l.length cap])
  have KN := Lib.hid (fun W (hW : Below w.heap.size w W) => new_good (fuel := f) (cap := cap) W ((hC.keep hW).more hW.size) hok)
  have KW := Lib.hid (fun W (hW : Below w.heap.size w W) => whole_good (fuel := f) (cap := cap) W ((hC.keep hW).more hW.size) hok (tabs_later hT hW))
  have KA := Lib.hid (fun W (hW : Below w.heap.size w W) => awake_any W (tabs_later hT hW))
  have HKK : Hid (∀ x ∈ l, x.k < 2 * signB) := Lib.hid fun x hx => by
    obtain ⟨i, hi⟩ := List.mem_iff_getElem?.1 hx
    obtain ⟨_, _, _, _, hc⟩ := hC (List.length_pos_of_mem hx)
    exact (hc i x hi).2
  have HKM : Hid (∀ x ∈ more, x.k < 2 * signB) := Lib.hid fun x hx => by
    obtain ⟨i, hi⟩ := List.mem_iff_getElem?.1 hx
    obtain ⟨_, _, _, _, hc⟩ := hCm (List.length_pos_of_mem hx)
    exact (hc i x hi).2
  have HOK := Lib.hid hok
  have HC := Lib.hid hC
  have HCM := Lib.hid hCm
  have HT := Lib.hid hT
  obtain ⟨M1, hM1⟩ : ∃ M1, wholeM f l = M1 := ⟨_, rfl⟩
  rw [hM1] at KW
  have HM1 := Lib.hid hM1
  clear hC hCm hT hok hM1
  go_enter Tryd.func6, Tryd.ntmps6
  go_upto_region 2 with (go_at_call 7; go_loud (refine (KN.out _ HB1.out).mono ?_); go_loud (rintro _ w1 ⟨g, cs, rfl, hg, hM, hb1⟩); have HBn := Lib.hid (grow_to HB1.out hb1); have HPn := Lib.hid (HP1.out.keep hb1); have HMn := Lib.hid hM; have HG := Lib.hid (Nat.le_trans HB1.out.size hg); have p0 := HPn.out.cell (j := 0) rfl; have p1 := HPn.out.cell (j := 1) rfl; clear hb1 hM hg)
  clear HB1 HP1 KN
  go_upto_region 3 with (go_at_call 8; go_loud (refine (KW.out _ HBn.out).mono ?_); go_loud (rintro _ wb ⟨ch, pi, rfl, hch, hpi, _, hb2⟩); obtain ⟨Ac, cc, rfl⟩ := own_slice hch; obtain ⟨Ap, cp, rfl⟩ := own_slice hpi; have HBb := Lib.hid (grow_to HBn.out hb2); have HPb := Lib.hid (HPn.out.keep hb2); have HMb := Lib.hid (HMn.out.keep hb2); clear hch hpi hb2)
  have HO := Lib.hid (Cells.new wb 35 #[.int .i64 M1.1.rcode, .int .u64 (M1.1.rbits : Nat), .slice Ac (chunksOf M1.2).length cc, .slice Ap (piecesOf M1.2).length cp, .int .i64 (M1.1.done : Nat)])
  have HB2 := Lib.hid (HBb.out.alloc HBb.out.size (.cells #[.int .i64 M1.1.rcode, .int .u64 (M1.1.rbits : Nat), .slice Ac (chunksOf M1.2).length cc, .slice Ap (piecesOf M1.2).length cp, .int .i64 (M1.1.done : Nat)] 35))
  have HP2 := Lib.hid (HPb.out.alloc (.cells #[.int .i64 M1.1.rcode, .int .u64 (M1.1.rbits : Nat), .slice Ac (chunksOf M1.2).length cc, .slice Ap (piecesOf M1.2).length cp, .int .i64 (M1.1.done : Nat)] 35))
  have HM2 := Lib.hid (HMb.out.alloc (.cells #[.int .i64 M1.1.rcode, .int .u64 (M1.1.rbits : Nat), .slice Ac (chunksOf M1.2).length cc, .slice Ap (piecesOf M1.2).length cp, .int .i64 (M1.1.done : Nat)] 35))
  clear HBb HPb HMb KW HBn HPn HMn p0 p1
  generalize wb.alloc (.cells #[.int .i64 M1.1.rcode, .int .u64 (M1.1.rbits : Nat), .slice Ac (chunksOf M1.2).length cc, .slice Ap (piecesOf M1.2).length cp, .int .i64 (M1.1.done : Nat)] 35) = w2 at *
  generalize wb.heap.size = Bo at *
  go_upto_region 7 with (go_at_call 9; go_loud (refine (KA.out _ HB2.out).mono ?_); rintro _ w3 ⟨rfl, hb3⟩; have HB3 := Lib.hid (grow_to HB2.out hb3); have HP3 := Lib.hid (HP2.out.keep hb3); have HO3 := Lib.hid (HO.out.keep hb3); have HM3 := Lib.hid (HM2.out.keep hb3); clear hb3)
  clear HB2 HP2 HO KA HM2
  refine wp_array (t := 54) (zs := noBools) bools_zero bools_under bools_size bools_info bools_one rfl rfl rfl rfl rfl rfl rfl rfl rfl (by decide) (by simp) (by simp) ?_
  simp only [Act.put, List.setIfInBounds_toArray, List.set_cons_zero, List.set_cons_succ]
  have HD := Lib.hid (Cells.new w3 54 noBools)
  have hal := (Below.refl w3.heap.size w3).alloc (Nat.le_refl _) (.cells noBools 54)
  have HB4 := Lib.hid (HB3.out.alloc HB3.out.size (.cells noBools 54))
  have HP4 := Lib.hid (HP3.out.keep hal)
  have HO4 := Lib.hid (HO3.out.keep hal)
  have HM4 := Lib.hid (HM3.out.keep hal)
  have HBD : Hid (w.heap.size ≤ w3.heap.size) := Lib.hid HB3.out.size
  clear hal HB3 HP3 HO3 HM3
  generalize w3.alloc (.cells noBools 54) = w4 at *
  generalize w3.heap.size = Bd at *
  go_wp2
  go_loopw [10] (fun x wr => ∃ n : Nat, n ≤ f ∧ x = .int .i64 (n : Nat) ∧ VisAt w wr g cs f l Bd Bo #[.int .i64 (f : Nat), .slice A l.length cap] #[.int .i64 M1.1.rcode, .int .u64 (M1.1.rbits : Nat), .slice Ac (chunksOf M1.2).length cc, .slice Ap (piecesOf M1.2).length cp, .int .i64 (M1.1.done : Nat)] n) (fun x _ => f - (intOf x).toNat)
  case atStart => exact ⟨0, Nat.zero_le _, rfl, _, _, HM4.out, (fun k hk => by cases hk), (fun k hk => by cases hk), HD.out, HP4.out, HO4.out, HB4.out⟩
  case round =>
    clear HB4 HP4 HO4 HM4 HD
    obtain ⟨n, hn, rfl, nv, pv, hM, hn1, hn2, hD, hP, hO, hB⟩ := hrel
    have HMx := Lib.hid hM
    have HDx := Lib.hid hD
    have HPx := Lib.hid hP
    have HOx := Lib.hid hO
    have HBx := Lib.hid hB
    have HN1 := Lib.hid hn1
    have HN2 := Lib.hid hn2
    have p0 : wr.cell? ⟨w.heap.size, 0, none⟩ = some (.int .i64 (f : Nat)) := hP.cell (j := 0) rfl
    have p1 : wr.cell? ⟨w.heap.size, 1, none⟩ = some (.slice A l.length cap) := hP.cell (j := 1) rfl
    clear hM hD hP hO hB hn1 hn2
    by_cases hlt : n < f ∧ (runM n (newM f l)).1.over = false
    · obtain ⟨hlt, hov⟩ := hlt
      obtain ⟨hF, hG, hcode, _⟩ := runM_fit (P := Tryd.prog) w n (fit_new HOK.out HKK.out) (goes_new HOK.out)
      have hat := (hG hov).1
      rw [hcode] at hat
      have hl64 := (progCheck_ok HOK.out).2.1.2
      have hf64 := (progCheck_ok HOK.out).1.2
      have ko := over_any HMx.out.cells
      have kp := fun k => place_any (Cells.drewN HMx.out.cells k)
      rw [hov] at ko
      have HSN := Lib.hid (runM_snoc (k := n) hov)
      have HFx := Lib.hid hF
      have HGx := Lib.hid hG
      have HOV := Lib.hid hov
      have hwr : wrap64 ((n : Int) + 1) = (n : Int) + 1 := by unfold wrap64; omega
      have HMS := Lib.hid (meas_dec hlt (show f ≤ 1024 by omega))
      have HLT := Lib.hid hlt
      obtain ⟨at0, hat0⟩ : ∃ a, (runM n (newM f l)).1.at_ = a := ⟨_, rfl⟩
      rw [hat0] at kp
      have hat' : at0 < l.length := by rw [← hat0]; exact hat
      have i0 : (n : Int) < f := by omega
      have i1 : (0 : Int) ≤ at0 := by omega
      have i2 : (at0 : Int) < l.length := by omega
      have i3 : (l.length : Int) ≤ 64 := by omega
      have i4 : (at0 : Int) < 64 := by omega
      have i5 : decide ((at0 : Int) < 0) = false := decide_eq_false (by omega)
      have i6 : decide ((l.length : Int) ≤ (at0 : Int)) = false := decide_eq_false (by omega)
      have i7 : decide ((64 : Int) < (l.length : Int)) = false := decide_eq_false (by omega)
      have i8 : decide (l.length ≤ at0) = false := decide_eq_false (by omega)
      have i9 : decide (64 < l.length) = false := decide_eq_false (by omega)
      have HAT := Lib.hid hat0
      have dcell := HDx.out.cell (j := at0) (boolsOf_at (by rw [doneTo_len]; omega))
      have dfz := HDx.out.fz at0
      clear hF hG hcode hat hl64 hf64 hat0 hat' hov hlt
      generalize l.length = len at *
      go_upto_region 11 with (go_at_call 10; go_loud (refine ko.mono ?_); rintro _ w5 ⟨rfl, rfl⟩)
      go_quiet ((go_at_call 19; exact Calls.quiet_of_same (kp _)))
      have HMz := Lib.hid (HMx.out.drewN nq)
      have HDz := Lib.hid (Cells.drewN HDx.out nq)
      have HPz := Lib.hid (Cells.drewN HPx.out nq)
      have HOz := Lib.hid (Cells.drewN HOx.out nq)
      have HBz := Lib.hid (below_drewN HBx.out nq)
      clear HMx HDx HPx HOx HBx ko kp dcell dfz p0 p1
      generalize w5.drewN nq = wz at *
      have kp := place_any HMz.out.cells
      rw [HAT.out] at kp
      have dcell := HDz.out.cell (j := at0) (boolsOf_at (by rw [doneTo_len]; omega))
      have dfz := HDz.out.fz at0
      go_upto_region 14 with (go_at_call 19; go_loud (refine kp.mono ?_); rintro _ w6 ⟨rfl, rfl⟩)
      clear kp dcell dfz
      have hts : Turns [Bd] w6 (w6.setCell ⟨Bd, at0, none⟩ (.bool true)) := (Turns.refl _ _).set (.inl (by simp)) _
      have HMs := Lib.hid (HMz.out.far (x := ⟨Bd, at0, none⟩) (HMz.out.other HDz.out (by decide) (by decide) (by decide) (by decide)) (.bool true))
      have HDs0 := HDz.out.set at0 (.bool true)
      rw [boolsOf_set] at HDs0
      have HDs : Hid (Cells (w6.setCell ⟨Bd, at0, none⟩ (.bool true)) Bd 54 (boolsOf (doneTo f l (n + 1)))) := Lib.hid (by
        rw [← HAT.out] at HDs0 ⊢
        exact HDs0)
      have HPs := Lib.hid (HPz.out.turns hts (by simpa using block_ne HPz.out HDz.out (by decide)))
      have HOs := Lib.hid (HOz.out.turns hts (by simpa using block_ne HOz.out HDz.out (by decide)))
      have HBs := Lib.hid (HBz.out.setCell (p := ⟨Bd, at0, none⟩) HBD.out (.bool true))
      clear hts HDs0 HMz HDz HPz HOz HBz
      generalize w6.setCell ⟨Bd, at0, none⟩ (.bool true) = ws at *
      have hbt : ∀ wt, Turns (mOwn g nv pv) ws wt → Below w.heap.size w wt := fun wt ht => HBs.out.trans (ht.below HBs.out.size (mOwn_ge HG.out HN1.out HN2.out))
      have ks := step_any HMs.out HFx.out HGx.out HOV.out (fun wt ht => HT.out wt (hbt wt ht))
      have HBT := Lib.hid hbt
      have KS := Lib.hid ks
      clear hbt ks
      go_wp2_with (go_at_call 20; with_reducible (refine KS.out.mono ?_); rintro _ w7 ⟨rfl, nv7, pv7, hn7, hp7, hM7, hT7⟩; have HM7 := Lib.hid hM7; have HT7 := Lib.hid hT7; have HN7 := Lib.hid hn7; have HP7 := Lib.hid hp7; clear hM7 hT7 hn7 hp7)
      refine ⟨⟨n + 1, HLT.out, by go_num, nv7, pv7, by rw [HSN.out]; exact HM7.out, anew_ge HN7.out HBs.out.size HN1.out, anew_ge HP7.out HBs.out.size HN2.out, HDs.out.turns HT7.out (mOwn_not HMs.out HDs.out (by decide) (by decide) (by decide)), HPs.out.turns HT7.out (mOwn_not HMs.out HPs.out (by decide) (by decide) (by decide)), HOs.out.turns HT7.out (mOwn_not HMs.out HOs.out (by decide) (by decide) (by decide)), HBT.out _ HT7.out⟩, by first | exact HMS.out.1 | exact HMS.out.2⟩
    · have hend : n = f ∨ (runM n (newM f l)).1.over = true := by
        rcases Nat.lt_or_ge n f with h | h
        · cases ho : (runM n (newM f l)).1.over with
          | true => exact .inr rfl
          | false => exact absurd ⟨h, ho⟩ hlt
        · exact .inl (by omega)
      have hlaw := spare_law (P := Tryd.prog) w HOK.out HKK.out more hend
      rw [HM1.out] at hlaw
      obtain ⟨Dn, hDn⟩ : ∃ Dn, doneTo f l n = Dn := ⟨_, rfl⟩
      have hDl : Dn.length = 64 := by rw [← hDn, doneTo_len]
      rw [hDn] at hlaw HDx
      have HLAW := Lib.hid hlaw
      have HDL := Lib.hid hDl
      have hway : ¬ (n : Int) < (f : Int) ∨ ((n : Int) < (f : Int) ∧ (runM n (newM f l)).1.over = true) := by
        rcases hend with h | h
        · exact .inl (by omega)
        · by_cases h2 : n < f
          · exact .inr ⟨by omega, h⟩
          · exact .inl (by omega)
      have HL64 := Lib.hid (progCheck_ok HOK.out).2.1
      have HF1 := Lib.hid (progCheck_ok HOK.out).1
      have ko0 := over_any HMx.out.cells
      have KO := Lib.hid ko0
      clear hend hlaw hDn hDl hlt ko0
      clear HN1 HN2 HMx
      obtain ⟨ov, hov⟩ : ∃ ov, (runM n (newM f l)).1.over = ov := ⟨_, rfl⟩
      rw [hov] at KO hway
      clear hov
      obtain ⟨len, hlen⟩ : ∃ len, l.length = len := ⟨_, rfl⟩
      have HLN := Lib.hid hlen
      rw [hlen] at HL64 HPx p1 HLAW
      clear hlen
      rcases hway with i0 | ⟨i0, rfl⟩
      all_goals
        focus
          go_upto_region 16 with (go_at_call 10; go_loud (refine KO.out.mono ?_); rintro _ w5 ⟨rfl, e5⟩; rw [e5]; clear e5 w5)
          have HZ := Lib.hid (Cells.new wr 24 #[.int .i64 (f : Nat), .slice none 0 0])
          have hal := (Below.refl wr.heap.size wr).alloc (Nat.le_refl _) (.cells #[.int .i64 (f : Nat), .slice none 0 0] 24)
          have HB6 := Lib.hid (HBx.out.alloc HBx.out.size (.cells #[.int .i64 (f : Nat), .slice none 0 0] 24))
          have HP6 := Lib.hid (HPx.out.keep hal)
          have HO6 := Lib.hid (HOx.out.keep hal)
          have HD6 := Lib.hid (HDx.out.keep hal)
          have HBQ : Hid (w.heap.size < wr.heap.size) := Lib.hid HPx.out.lt
          clear hal HPx HOx HDx HBx p0 p1 KO
          generalize wr.alloc (.cells #[.int .i64 (f : Nat), .slice none 0 0] 24) = w6 at *
          generalize wr.heap.size = Bq at *
          obtain ⟨i1, hq1, hz1, hsz1, hby1⟩ := info_ins
          have HWD : Hid (∀ x ∈ spareTo l more Dn len, x.k < 2 * signB) := Lib.hid (spareTo_k HKK.out HKM.out len (Nat.le_of_eq HLN.out.symm))
          go_wp2
          go_loopw [12] (fun x wr => ∃ (k : Nat) (qv : Value), k ≤ len ∧ x = .int .i64 (k : Nat) ∧ Cells wr Bq 24 #[.int .i64 (f : Nat), qv] ∧ wr.ownsRow w.heap.size 52 6 qv k ((spareTo l more Dn k).flatMap Ins.cells) ∧ Cells wr Bd 54 (boolsOf Dn) ∧ Cells wr w.heap.size 24 #[.int .i64 (f : Nat), .slice A len cap] ∧ Cells wr Bo 35 #[.int .i64 M1.1.rcode, .int .u64 (M1.1.rbits : Nat), .slice Ac (chunksOf M1.2).length cc, .slice Ap (piecesOf M1.2).length cp, .int .i64 (M1.1.done : Nat)] ∧ Below w.heap.size w wr) (fun x _ => len - (intOf x).toNat)
          case atStart => exact ⟨0, .slice none 0 0, Nat.zero_le _, rfl, HZ.out, World.ownsRow_nil _ _ _ _, HD6.out, HP6.out, HO6.out, HB6.out⟩
          case round =>
            clear HZ HD6 HP6 HO6 HB6
            obtain ⟨k, qv, hk, rfl, hZ, hR, hD, hP, hO, hB⟩ := hrel
            obtain ⟨Aq, cq, rfl⟩ := own_slice hR
            have HZx := Lib.hid hZ
            have HRx := Lib.hid hR
            have HDx := Lib.hid hD
            have HPx := Lib.hid hP
            have HOx := Lib.hid hO
            have HBx := Lib.hid hB
            have p1 : wr.cell? ⟨w.heap.size, 1, none⟩ = some (.slice A len cap) := hP.cell (j := 1) rfl
            have q0 : wr.cell? ⟨Bq, 0, none⟩ = some (.int .i64 (f : Nat)) := hZ.cell (j := 0) rfl
            have q1 : wr.cell? ⟨Bq, 1, none⟩ = some (.slice Aq k cq) := hZ.cell (j := 1) rfl
            clear hZ hR hD hP hO hB
            by_cases hlt : k < len
            · obtain ⟨x, hx⟩ : ∃ x, l[k]? = some x := ⟨l[k]'(by rw [HLN.out]; exact hlt), List.getElem?_eq_getElem _⟩
              obtain ⟨b, off, rfl, hbl, hcl⟩ := HC.out (by rw [HLN.out]; omega)
              have hcx := (hcl k x hx).1.keep HBx.out hbl
              obtain ⟨c0, c1, c2, c3, c4, c5⟩ := hcx
              have hxd : l.getD k default = x := by rw [List.getD_eq_getElem?_getD, hx]; rfl
              have dk : ∀ Z, (wr.alloc Z).cell? ⟨Bd, k, none⟩ = some (.bool (Dn.getD k false)) := fun Z => (HDx.out.alloc Z).cell (j := k) (boolsOf_at (by rw [HDL.out]; have := HL64.out.2; omega))
              have qa1 : ∀ Z, (wr.alloc Z).cell? ⟨Bq, 1, none⟩ = some (.slice Aq k cq) := fun Z => (HZx.out.alloc Z).cell (j := 1) rfl
              have k64 : k < 64 := by have := HL64.out.2; omega
              have i0' : (0 : Int) ≤ (k : Int) := by omega
              have i1' : (k : Int) < (len : Int) := by omega
              have i2' : (k : Int) < 64 := by omega
              have hwr : wrap64 ((k : Int) + 1) = (k : Int) + 1 := by unfold wrap64; omega
              have HMS := Lib.hid (meas_dec hlt (show len ≤ 1024 by have := HL64.out.2; omega))
              have HST : Hid (∀ y : Ins, (if Dn.getD k false = false ∧ k < more.length then more.getD k default else l.getD k default) = y → (spareTo l more Dn (k + 1)).flatMap Ins.cells = (spareTo l more Dn k).flatMap Ins.cells ++ Ins.cells y) := Lib.hid fun y hy => by rw [spareTo, hy]; simp
              have HLT := Lib.hid hlt
              have HB64 := Lib.hid k64
              clear hx hcl hlt k64
              obtain ⟨dn, hdn⟩ : ∃ dn, Dn.getD k false = dn := ⟨_, rfl⟩
              rw [hdn] at dk HST
              clear hdn
              have hplain : (dn = false ∧ k < more.length) ∨ dn = true ∨ (dn = false ∧ ¬ k < more.length) := by
                cases dn with
                | true => exact .inr (.inl rfl)
                | false => by_cases h : k < more.length
                           · exact .inl ⟨rfl, h⟩
                           · exact .inr (.inr ⟨rfl, h⟩)
              rcases hplain with ⟨rfl, hmr⟩ | hother
              · obtain ⟨y, hy⟩ : ∃ y, more[k]? = some y := ⟨more[k], List.getElem?_eq_getElem hmr⟩
                obtain ⟨bm, offm, rfl, hbm, hcm⟩ := HCM.out (by omega)
                obtain ⟨m0, m1, m2, m3, m4, m5⟩ := (hcm k y hy).1.keep HBx.out hbm
                have hcell := HST.out y (by rw [if_pos ⟨rfl, hmr⟩, List.getD_eq_getElem?_getD, hy]; rfl)
                have HCELL := Lib.hid hcell
                have i3' : (k : Int) < (more.length : Int) := by omega
                have HMR := Lib.hid hmr
                clear hy hcm hcell HST hxd hmr
                generalize more.length = mlen at *
                obtain ⟨xo, xa, xb, xc, xn, xk⟩ := x
                obtain ⟨yo, ya, yb, yc, yn, yk⟩ := y
                dsimp only at c0 c1 c2 c3 c4 c5 m0 m1 m2 m3 m4 m5
                have qm := fun (x : Addr) (v : Value) (h : wr.cell? x = some v) (Z : Obj) => (World.cell?_alloc_some wr x Z (by rw [h]; rfl)).trans h
                have ma0 := qm _ _ m0
                have ma1 := qm _ _ m1
                have ma2 := qm _ _ m2
                have ma3 := qm _ _ m3
                have ma4 := qm _ _ m4
                have ma5 := qm _ _ m5
                clear qm m0 m1 m2 m3 m4 m5
                focus
                  have HAL := Lib.hid ((Below.refl wr.heap.size wr).alloc (Nat.le_refl _) (.cells #[.int .i64 yo, .int .i64 ya, .int .i64 yb, .int .i64 yc, .int .i64 yn, .int .u64 (yk : Nat)] 52))
                  go_wp2_with (at_builtin; refine wpList_append_elem' (w := wr.alloc (.cells #[.int .i64 yo, .int .i64 ya, .int .i64 yb, .int .i64 yc, .int .i64 yn, .int .u64 (yk : Nat)] 52)) rfl _ _ _ rfl w.heap.size 52 i1 _ 6 48 Tryd.underlying22 hq1 hz1 hsz1 hby1 rfl (by decide) (.slice Aq k cq) k ((spareTo l more Dn k).flatMap Ins.cells) rfl (own_kept HRx.out HAL.out) #[.int .i64 yo, .int .i64 ya, .int .i64 yb, .int .i64 yc, .int .i64 yn, .int .u64 (yk : Nat)] rfl (by simp [Value.oneCell']) _ rfl (by simp) (by have := HB64.out; omega) (by decide) (by have := HBx.out.size; simp; omega) ?_; intro v' W4 ho4 hgr4 hat4; have HS := Lib.hid (spare_step (HZx.out.alloc _) (own_kept HRx.out HAL.out) (HDx.out.alloc _) (HPx.out.alloc _) (HOx.out.alloc _) (HBx.out.alloc HBx.out.size _) HBQ.out ho4 hgr4); have y1 : W4.cell? ⟨Bq, 1, none⟩ = some (.slice Aq k cq) := (cells_grown hgr4 (own_kept HRx.out HAL.out) (HZx.out.alloc _) (by decide)).cell (j := 1) rfl; have yf := (cells_grown hgr4 (own_kept HRx.out HAL.out) (HZx.out.alloc _) (by decide)).fz 1; obtain ⟨k', cap', rfl⟩ := own_some ho4; clear ho4 hgr4 hat4)
                  refine ⟨⟨k + 1, _, HLT.out, by go_num, HS.out.1, by rw [HCELL.out]; exact HS.out.2.1, HS.out.2.2.1, HS.out.2.2.2.1, HS.out.2.2.2.2.1, HS.out.2.2.2.2.2⟩, by first | exact HMS.out.1 | exact HMS.out.2⟩
              · have hcell := HST.out x (by rw [if_neg (by rcases hother with h | ⟨_, h⟩ <;> simp [h]), hxd])
                have HCELL := Lib.hid hcell
                clear hcell HST hxd
                obtain ⟨xo, xa, xb, xc, xn, xk⟩ := x
                dsimp only at c0 c1 c2 c3 c4 c5
                rcases hother with rfl | ⟨rfl, hmr⟩
                · focus
                    have HAL := Lib.hid ((Below.refl wr.heap.size wr).alloc (Nat.le_refl _) (.cells #[.int .i64 xo, .int .i64 xa, .int .i64 xb, .int .i64 xc, .int .i64 xn, .int .u64 (xk : Nat)] 52))
                    go_wp2_with (at_builtin; refine wpList_append_elem' (w := wr.alloc (.cells #[.int .i64 xo, .int .i64 xa, .int .i64 xb, .int .i64 xc, .int .i64 xn, .int .u64 (xk : Nat)] 52)) rfl _ _ _ rfl w.heap.size 52 i1 _ 6 48 Tryd.underlying22 hq1 hz1 hsz1 hby1 rfl (by decide) (.slice Aq k cq) k ((spareTo l more Dn k).flatMap Ins.cells) rfl (own_kept HRx.out HAL.out) #[.int .i64 xo, .int .i64 xa, .int .i64 xb, .int .i64 xc, .int .i64 xn, .int .u64 (xk : Nat)] rfl (by simp [Value.oneCell']) _ rfl (by simp) (by have := HB64.out; omega) (by decide) (by have := HBx.out.size; simp; omega) ?_; intro v' W4 ho4 hgr4 hat4; have HS := Lib.hid (spare_step (HZx.out.alloc _) (own_kept HRx.out HAL.out) (HDx.out.alloc _) (HPx.out.alloc _) (HOx.out.alloc _) (HBx.out.alloc HBx.out.size _) HBQ.out ho4 hgr4); have y1 : W4.cell? ⟨Bq, 1, none⟩ = some (.slice Aq k cq) := (cells_grown hgr4 (own_kept HRx.out HAL.out) (HZx.out.alloc _) (by decide)).cell (j := 1) rfl; have yf := (cells_grown hgr4 (own_kept HRx.out HAL.out) (HZx.out.alloc _) (by decide)).fz 1; obtain ⟨k', cap', rfl⟩ := own_some ho4; clear ho4 hgr4 hat4)
                    refine ⟨⟨k + 1, _, HLT.out, by go_num, HS.out.1, by rw [HCELL.out]; exact HS.out.2.1, HS.out.2.2.1, HS.out.2.2.2.1, HS.out.2.2.2.2.1, HS.out.2.2.2.2.2⟩, by first | exact HMS.out.1 | exact HMS.out.2⟩
                · have i3' : ¬ (k : Int) < (more.length : Int) := by omega
                  clear hmr
                  generalize more.length = mlen at *
                  focus
                    have HAL := Lib.hid ((Below.refl wr.heap.size wr).alloc (Nat.le_refl _) (.cells #[.int .i64 xo, .int .i64 xa, .int .i64 xb, .int .i64 xc, .int .i64 xn, .int .u64 (xk : Nat)] 52))
                    go_wp2_with (at_builtin; refine wpList_append_elem' (w := wr.alloc (.cells #[.int .i64 xo, .int .i64 xa, .int .i64 xb, .int .i64 xc, .int .i64 xn, .int .u64 (xk : Nat)] 52)) rfl _ _ _ rfl w.heap.size 52 i1 _ 6 48 Tryd.underlying22 hq1 hz1 hsz1 hby1 rfl (by decide) (.slice Aq k cq) k ((spareTo l more Dn k).flatMap Ins.cells) rfl (own_kept HRx.out HAL.out) #[.int .i64 xo, .int .i64 xa, .int .i64 xb, .int .i64 xc, .int .i64 xn, .int .u64 (xk : Nat)] rfl (by simp [Value.oneCell']) _ rfl (by simp) (by have := HB64.out; omega) (by decide) (by have := HBx.out.size; simp; omega) ?_; intro v' W4 ho4 hgr4 hat4; have HS := Lib.hid (spare_step (HZx.out.alloc _) (own_kept HRx.out HAL.out) (HDx.out.alloc _) (HPx.out.alloc _) (HOx.out.alloc _) (HBx.out.alloc HBx.out.size _) HBQ.out ho4 hgr4); have y1 : W4.cell? ⟨Bq, 1, none⟩ = some (.slice Aq k cq) := (cells_grown hgr4 (own_kept HRx.out HAL.out) (HZx.out.alloc _) (by decide)).cell (j := 1) rfl; have yf := (cells_grown hgr4 (own_kept HRx.out HAL.out) (HZx.out.alloc _) (by decide)).fz 1; obtain ⟨k', cap', rfl⟩ := own_some ho4; clear ho4 hgr4 hat4)
                    refine ⟨⟨k + 1, _, HLT.out, by go_num, HS.out.1, by rw [HCELL.out]; exact HS.out.2.1, HS.out.2.2.1, HS.out.2.2.2.1, HS.out.2.2.2.2.1, HS.out.2.2.2.2.2⟩, by first | exact HMS.out.1 | exact HMS.out.2⟩
            · obtain rfl : k = len := by omega
              have i1' : ¬ (k : Int) < (k : Int) := by omega
              have hsl : (spareTo l more Dn k).length = k := spareTo_len _ _ _ _
              have HSL := Lib.hid hsl
              obtain ⟨sl, hsle⟩ : ∃ sl, spareTo l more Dn k = sl := ⟨_, rfl⟩
              have hlw := HLAW.out
              rw [hsle] at HRx HWD HSL hlw
              have hrr := HRx.out
              rw [← HSL.out] at hrr
              have hrr' := hrr
              clear hsl hsle hrr hlt hk
              have hcq : CodeIn wr wr.heap.size Aq sl := code_of_row (by first | exact hrr' | (rw [HSL.out]; rw [HSL.out] at hrr'; exact hrr')) HWD.out
              by_cases hne : (progCheck f sl).1 = 0
              · have kw := whole_good (fuel := f) (cap := cq) wr hcq hne (tabs_later HT.out HBx.out)
                rw [hlw, HSL.out] at kw
                simp only [Mach.withCode] at kw
                have KW2 := Lib.hid kw
                clear kw hcq hne hlw hrr' HSL HWD HRx
                go_upto_region 24 with (go_at_call 8; go_loud (with_reducible (refine KW2.out.mono ?_)); go_loud (rintro _ w8 ⟨ch, pi, rfl, hch, hpi, _, hb8⟩); obtain ⟨A8, c8, rfl⟩ := own_slice hch; obtain ⟨A9, c9, rfl⟩ := own_slice hpi; have HB8 := Lib.hid (grow_to HBx.out hb8); have HO8 := Lib.hid (HOx.out.keep hb8); clear hch hpi hb8)
                have HZ9 := Lib.hid (Cells.new w8 35 #[.int .i64 M1.1.rcode, .int .u64 (M1.1.rbits : Nat), .slice A8 (chunksOf M1.2).length c8, .slice A9 (piecesOf M1.2).length c9, .int .i64 (M1.1.done : Nat)])
                have HO9 := Lib.hid (HO8.out.alloc (.cells #[.int .i64 M1.1.rcode, .int .u64 (M1.1.rbits : Nat), .slice A8 (chunksOf M1.2).length c8, .slice A9 (piecesOf M1.2).length c9, .int .i64 (M1.1.done : Nat)] 35))
                have HB9 := Lib.hid (HB8.out.alloc HB8.out.size (.cells #[.int .i64 M1.1.rcode, .int .u64 (M1.1.rbits : Nat), .slice A8 (chunksOf M1.2).length c8, .slice A9 (piecesOf M1.2).length c9, .int .i64 (M1.1.done : Nat)] 35))
                clear HB8 HO8 p1 q0 q1
                generalize w8.alloc (.cells #[.int .i64 M1.1.rcode, .int .u64 (M1.1.rbits : Nat), .slice A8 (chunksOf M1.2).length c8, .slice A9 (piecesOf M1.2).length c9, .int .i64 (M1.1.done : Nat)] 35) = w9 at *
                generalize w8.heap.size = B9 at *
                have hrs := res_self M1.1.rcode (M1.1.rbits : Nat)
                have z0 : w9.cell? ⟨B9, 0, none⟩ = some (.int .i64 M1.1.rcode) := HZ9.out.cell (j := 0) rfl
                have z1 : w9.cell? ⟨B9, 1, none⟩ = some (.int .u64 (M1.1.rbits : Nat)) := HZ9.out.cell (j := 1) rfl
                have z2 : w9.cell? ⟨B9, 2, none⟩ = some (.slice A8 (chunksOf M1.2).length c8) := HZ9.out.cell (j := 2) rfl
                have z3 : w9.cell? ⟨B9, 3, none⟩ = some (.slice A9 (piecesOf M1.2).length c9) := HZ9.out.cell (j := 3) rfl
                have z4 : w9.cell? ⟨B9, 4, none⟩ = some (.int .i64 (M1.1.done : Nat)) := HZ9.out.cell (j := 4) rfl
                have o0 : w9.cell? ⟨Bo, 0, none⟩ = some (.int .i64 M1.1.rcode) := HO9.out.cell (j := 0) rfl
                have o1 : w9.cell? ⟨Bo, 1, none⟩ = some (.int .u64 (M1.1.rbits : Nat)) := HO9.out.cell (j := 1) rfl
                have o2 : w9.cell? ⟨Bo, 2, none⟩ = some (.slice Ac (chunksOf M1.2).length cc) := HO9.out.cell (j := 2) rfl
                have o3 : w9.cell? ⟨Bo, 3, none⟩ = some (.slice Ap (piecesOf M1.2).length cp) := HO9.out.cell (j := 3) rfl
                have o4 : w9.cell? ⟨Bo, 4, none⟩ = some (.int .i64 (M1.1.done : Nat)) := HO9.out.cell (j := 4) rfl
                go_wp2
                go_ret
                exact ⟨by first | rfl | simp, HB9.out⟩
              · have kb := whole_bad (fuel := f) (cap := cq) wr hcq hne
                rw [HSL.out] at kb
                have KB := Lib.hid kb
                have t1 : ((progCheck f sl).1 != 0) = true := by simp [bne, hne]
                clear kb hcq hne hlw hrr' HSL HWD HRx
                generalize (progCheck f sl).1 = pe at *
                go_wp2_with (go_at_call 8; with_reducible (refine KB.out.mono ?_); rintro _ w8 ⟨rfl, hb8⟩; have HB8 := Lib.hid (grow_to HBx.out hb8); clear hb8)
                go_ret
                exact ⟨by first | rfl | simp, HB8.out.alloc HB8.out.size _⟩
theorem walk {fuel : Int} {A Am : Option Addr} {l more : List Ins} {cap capm : Nat} (w : World) (hC : CodeIn w w.heap.size A l) (hCm : CodeIn w w.heap.size Am more) (hT : ∀ wz, Below w.heap.size w wz → TabsAt wz) :
    Calls Tryd.prog 6 #[.agg #[.int .i64 fuel, .slice A l.length cap], .slice Am more.length capm] w fun e w' => e = .returned (.bool true) ∧ Below w.heap.size w w' := by
  by_cases hne : (progCheck fuel l).1 = 0
  · obtain ⟨f, rfl⟩ := Int.eq_ofNat_of_zero_le (show 0 ≤ fuel by have := (progCheck_ok hne).1; omega)
    exact walk_good w hC hCm hT hne
  · exact walk_bad w hC hT hne

-- LIFT
set_option maxRecDepth 100000 in
theorem contract (H : Type) (enc : TypeId × Value → H) (W : World) (base : Nat) (args : Array Value) (ds gs : List (DataW H)) (before : List MemPlace)
    (hval : ∀ (j : Nat) t v, Tryd.f6.params[j]? = some t → args[j]? = some v → Value.okWide Tryd.prog W .any base t v)
    (hW : DataW.Whole enc Tryd.prog Tryd.f6.params.toList Rows.interpSpareSpec.vars false W args.toList ds gs before) (hL : laidMetH Tryd.prog Rows.interpSpareRow.laid W) :
    Calls Tryd.prog 6 args W fun e W' => ∃ v, e = .returned v ∧ Rows.interpSpareSpec.post enc Tryd.prog Tryd.f6 false true false false W args v W' := by
  have hT0 := tabs_of (show laidMetH Tryd.prog laidOf W from hL)
  have hT : ∀ wz, Below W.heap.size W wz → TabsAt wz := fun wz hz => tabs_keep hz hT0
  clear hL
  have hts : Tryd.f6.params.toList.all (fun t => Tryd.prog.readableRec t && decide (t < Tryd.prog.types.size)) = true := by kernel_rfl
  have hW' := hW
  obtain ⟨p, q, hA0, hV, rfl, hfz, hnd⟩ := hW
  have hA : DataW.TrodAll enc Tryd.prog W 0 (fun _ => true) true Tryd.f6.params.toList args.toList ds p := hA0
  rw [Tryd.params6] at hA hval
  obtain ⟨v0, vs0, d0, ds0, p0, q0, hargs, rfl, rfl, h0, r0⟩ := trodAll_cons hA
  obtain ⟨v1, vs1, d1, ds1, p1, q1, rfl, rfl, rfl, h1, r1⟩ := trodAll_cons r0
  obtain ⟨rfl, rfl, rfl⟩ := trodAll_nil r1
  obtain rfl : args = #[v0, v1] := by cases args; simp_all
  obtain ⟨rfl, rfl⟩ := trodVars_none hV
  have hfn : Rows.interpSpareSpec.fn H ([d0, d1] ++ []) = { results := [.lit (.bool true)], args := [d0, d1] } := rfl
  have hfin := fun W' (hbel : Below W.heap.size W W') => law_post (f := Tryd.f6) (s := Rows.interpSpareSpec) 4 Tryd.laid hts rfl Tryd.underlying4 rfl hfn hW' hbel
  clear hA0 hts hfn
  obtain ⟨fu0, A0, l0, c0, rfl, hC0, hf0, hg0⟩ := open_prog (hval 0 24 v0 rfl rfl) h0
  obtain ⟨a01, le1, ca1, rfl⟩ := okWide_slice Tryd.underlying22 (hval 1 22 v1 rfl rfl)
  obtain ⟨fu1, hh1⟩ := h1
  obtain ⟨A1, l1, c1, hsl1, hC1⟩ := open_code (show DataW.trod enc Tryd.prog W 0 (fun _ => true) true fu1 22 [.slice a01 le1 ca1] = some (d1, p1) from hh1)
  injection hsl1 with e11 e21 e31
  subst e11 e21 e31
  exact (walk W hC0 hC1 hT).mono fun e W' ⟨he, hg⟩ => ⟨_, he, hfin W' hg⟩

theorem reads (os : Os) {H : Type} (enc : TypeId × Value → H) : ∃ places, DataW.whole enc Tryd.prog ((laidWorld os).forCall (fun _ _ => 0) ⟨#[], #[.agg #[.int .i64 0, .slice none 0 0], .slice none 0 0], []⟩).memory Tryd.f6.params.toList Rows.interpSpareSpec.vars false #[.agg #[.int .i64 0, .slice none 0 0], .slice none 0 0].toList 8 = some ([.agg [.lit (.int .i64 0), .nil], .nil], [], places) :=
  ⟨[], by kernel_rfl⟩
theorem laid_met (os : Os) : laidMet Tryd.prog Rows.interpSpareRow.laid ((laidWorld os).forCall (fun _ _ => 0) ⟨#[], #[.agg #[.int .i64 0, .slice none 0 0], .slice none 0 0], []⟩).memory := laid_here os #[.agg #[.int .i64 0, .slice none 0 0], .slice none 0 0]

set_option maxRecDepth 100000 in
theorem lifted (os : Os) (started : os.Started) (H : Type) (enc : TypeId × Value → H) (F : Stop.Interp) :
    ReturnsInHanded {} Tryd.checked os 6 .any ((OpenSpec.ofChange Rows.interpSpareSpec).preRow enc Tryd.prog Tryd.f6 Rows.interpSpareRow.domain false Rows.interpSpareRow.laid) (((OpenSpec.ofChange Rows.interpSpareSpec).at F).post enc Tryd.prog Tryd.f6 false true false false) := by
  obtain ⟨places, hx⟩ := reads os enc
  refine returnsInHanded_of_row (C := Tryd.checked) (s := OpenSpec.ofChange Rows.interpSpareSpec) Tryd.own started (by kernel_rfl) Tryd.func6
    (witness_row_atRef (enc := enc) (C := Tryd.checked) false (laidWorld os) #[.agg #[.int .i64 0, .slice none 0 0], .slice none 0 0] rfl (by kernel_rfl) (by kernel_rfl) (by kernel_rfl)
      (OpenSpec.preRow_of_cond 8 hx (by kernel_rfl) (fun k hk => by cases hk) (by kernel_rfl) (laid_met os))) ?_
  intro W base args ds gs before hval hW _ _ _ hL _ _
  exact contract H enc W base args ds gs before hval hW hL

theorem said : Rows.InterpSpareSaid :=
  OpenClaim.holds_of_cond 6 Tryd.f6 rfl rfl rfl rfl rfl rfl rfl ⟨rfl, rfl, rfl, rfl, rfl⟩ rfl rfl rfl rfl rfl (by kernel_rfl) Tryd.func6 (by kernel_rfl)
    (of_decide_eq_true (by kernel_rfl)) (by unfold Func.isWrapper; first | (rw [if_pos (by decide +kernel)]; kernel_rfl) | (rw [if_neg (by decide +kernel)]; exact ⟨rfl, rfl⟩))
    (fun os started H enc _ F => by rw [OpenClaim.pre_eq_preRow]; exact lifted os started H enc F)

theorem plain (f : FuncId) (fn : Func) (hf : Tryd.pinned.checked.prog.funcNamed "gaffer/gafferlaw06.InterpSpare" = some f) (hfn : Tryd.pinned.checked.prog.funcs[f]? = some fn) :
    true = Tryd.pinned.checked.prog.looks [] ∧ ∀ (j : Nat) t, fn.params[j]? = some t → Tryd.pinned.checked.prog.wantsStandIn t = false := by
  obtain rfl : f = 6 := Option.some.inj ((show Tryd.prog.funcNamed "gaffer/gafferlaw06.InterpSpare" = some 6 by kernel_rfl).symm.trans hf) |>.symm
  obtain rfl : fn = Tryd.f6 := (Option.some.inj (Tryd.func6.symm.trans hfn)).symm
  refine ⟨by kernel_rfl, fun j t ht => ?_⟩
  rw [Tryd.params6] at ht
  have hm := Array.mem_of_getElem? ht
  simp only [List.mem_toArray, List.mem_cons, List.not_mem_nil, or_false] at hm
  rcases hm with rfl | rfl
  · exact (show Tryd.prog.wantsStandIn 24 = false by kernel_rfl)
  · exact (show Tryd.prog.wantsStandIn 22 = false by kernel_rfl)

theorem proved : Rows.InterpSpareCardSaid :=
  Claim7.holds_tied_plain_at .later [] _ _ _ _ said (fun _ h => by cases h) (by kernel_rfl) (fun _ h => by cases h) interpSpare_row_tie rfl ⟨rfl, rfl⟩ (by kernel_rfl) rfl plain (by kernel_rfl)

end Go.Proofs.YtjloiclbknfomaaDoor.interpSpare
