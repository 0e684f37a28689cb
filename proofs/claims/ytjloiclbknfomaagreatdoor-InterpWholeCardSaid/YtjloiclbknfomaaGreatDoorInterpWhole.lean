/- InterpWhole: what any program tells up to its end: as a row and as a card. -/
import Derived.Test.YtjloiclbknfomaaGreatDoorKv
import Derived.Test.YtjloiclbknfomaaGreatDoorKh
import Derived.Test.YtjloiclbknfomaaGreatDoorKrh
import Derived.Test.YtjloiclbknfomaaGreatDoorKo
set_option maxRecDepth 100000
namespace Go.Proofs.YtjloiclbknfomaaGreatDoor.interpWhole
open Go.RowKit Go.WideShapes Go.ChangeShapes Go.ChangeAt Ieee

/-- what a program tells: the result's code and bits, the steps, the texts, the error -/
structure Told6 where
  rc : Int
  rb : Nat
  st : Nat
  lc : List (List UInt8)
  lp : List (List UInt8)
  er : Int
def told6 (fuel : Int) (l : List Ins) : Told6 :=
  if (progCheck fuel l).1 = 0 then ⟨(wholeM fuel.toNat l).1.rcode, (wholeM fuel.toNat l).1.rbits, (wholeM fuel.toNat l).1.done, chunksOf (wholeM fuel.toNat l).2, piecesOf (wholeM fuel.toNat l).2, 0⟩
  else ⟨0, 0, 0, [], [], (progCheck fuel l).1⟩
theorem told_small {P : Program} (w : World) {fuel : Int} {l : List Ins} (hk : ∀ x ∈ l, x.k < 2 * signB) : (told6 fuel l).lc.length ≤ 32 ∧ (told6 fuel l).lp.length ≤ 16 := by
  unfold told6
  split
  · rename_i h
    obtain ⟨f, rfl⟩ := Int.eq_ofNat_of_zero_le (show 0 ≤ fuel by have := (progCheck_ok h).1; omega)
    rw [Int.toNat_natCast]
    obtain ⟨h1, h2, _⟩ := run_counts f (newM f l)
    have hF := (runM_fit (P := P) w f (fit_new h hk) (goes_new h)).1
    have h3 := hF.chunks
    have h4 := hF.pieces
    have h5 : (newM f l).chunks = 0 := rfl
    have h6 : (newM f l).pieces = 0 := rfl
    unfold wholeM
    dsimp only
    omega
  · simp
theorem whole_any {fuel : Int} {A : Option Addr} {l : List Ins} {cap : Nat} (w : World) (hC : CodeIn w w.heap.size A l) (hT : ∀ wz, Below w.heap.size w wz → TabsAt wz) :
    Calls Tryz.prog 5 #[.agg #[.int .i64 fuel, .slice A l.length cap]] w fun e w' => ∃ ch pi, e = .returned (.tuple #[.agg #[.int .i64 (told6 fuel l).rc, .int .u64 ((told6 fuel l).rb : Nat), ch, pi, .int .i64 ((told6 fuel l).st : Nat)], .int .i64 (told6 fuel l).er]) ∧ TextsIn w' w.heap.size ch (told6 fuel l).lc ∧ TextsIn w' w.heap.size pi (told6 fuel l).lp ∧ Apart2 ch pi ∧ Below w.heap.size w w' := by
  unfold told6
  by_cases h : (progCheck fuel l).1 = 0
  · rw [if_pos h]
    obtain ⟨f, rfl⟩ := Int.eq_ofNat_of_zero_le (show 0 ≤ fuel by have := (progCheck_ok h).1; omega)
    exact whole_good w hC h hT
  · rw [if_neg h]
    exact (whole_bad w hC h).mono fun e w' ⟨he, hb⟩ => ⟨_, _, he, World.ownsRow_nil _ _ _ _, World.ownsRow_nil _ _ _ _, (fun k hk => by cases hk), hb⟩
theorem rwhole_any {fuel : Int} {A : Option Addr} {l : List Ins} {cap : Nat} (w : World) (hC : CodeIn w w.heap.size A l) :
    Calls Tryz.prog 6 #[.agg #[.int .i64 fuel, .slice A l.length cap]] w fun e w' => ∃ ch pi, e = .returned (.tuple #[.agg #[.int .i64 (told6 fuel l).rc, .int .u64 ((told6 fuel l).rb : Nat), ch, pi, .int .i64 ((told6 fuel l).st : Nat)], .int .i64 (told6 fuel l).er]) ∧ TextsIn w' w.heap.size ch (told6 fuel l).lc ∧ TextsIn w' w.heap.size pi (told6 fuel l).lp ∧ Apart2 ch pi ∧ Below w.heap.size w w' := by
  unfold told6
  by_cases h : (progCheck fuel l).1 = 0
  · rw [if_pos h]
    obtain ⟨f, rfl⟩ := Int.eq_ofNat_of_zero_le (show 0 ≤ fuel by have := (progCheck_ok h).1; omega)
    exact rwhole_good w hC h
  · rw [if_neg h]
    exact (rwhole_bad w hC h).mono fun e w' ⟨he, hb⟩ => ⟨_, _, he, World.ownsRow_nil _ _ _ _, World.ownsRow_nil _ _ _ _, (fun k hk => by cases hk), hb⟩
/-- a cell of a row of the call's own, written over -/
theorem own_set {w : World} {base n cap i : Nat} {A : Option Addr} {e : TypeId} {xs : List Value} (h : w.ownsRow base e 1 (.slice A n cap) n xs) (hi : i < n) (u : Value) :
    ∃ b, A = some ⟨b, 0, none⟩ ∧ base ≤ b ∧ (∃ v, w.cell? ⟨b, i, none⟩ = some v) ∧ w.frozen? ⟨b, i, none⟩ = false ∧ (w.setCell ⟨b, i, none⟩ u).ownsRow base e 1 (.slice A n cap) n (xs.set i u) := by
  rcases h.2 with ⟨hv, hn⟩ | ⟨b, cap', cur, hv, hb, hh, hle, hm, hsz, ht⟩
  · omega
  · injection hv with hA _ hc
    subst hA hc
    refine ⟨b, rfl, hb, ⟨cur[i]'(by omega), Cells.cell (t := e) hh (Array.getElem?_eq_getElem _)⟩, Cells.fz (t := e) hh i, ⟨by rw [List.length_set]; exact h.1, .inr ⟨b, cap, cur.setIfInBounds i u, rfl, hb, Cells.set (t := e) hh i u, hle, hm, by simpa using hsz, ?_⟩⟩⟩
    rw [← ht, Array.toList_setIfInBounds, List.take_set]
theorem spoil {w wr : World} {Bo n i cap m : Nat} {A : Option Addr} {O1 PV : Array Value} {xs ys : List Value} {pv : Value} (hz : Cells wr Bo 30 O1) (hp : Cells wr w.heap.size 24 PV) (hr : wr.ownsRow w.heap.size 9 1 (.slice A n cap) n xs) (hq : wr.ownsRow w.heap.size 9 1 pv m ys) (hap : Apart2 (.slice A n cap) pv) (hb : Below w.heap.size w wr) (hi : i < n) (u : Value) :
    ∃ b, A = some ⟨b, 0, none⟩ ∧ (∃ v, wr.cell? ⟨b, i, none⟩ = some v) ∧ wr.frozen? ⟨b, i, none⟩ = false ∧ Cells (wr.setCell ⟨b, i, none⟩ u) Bo 30 O1 ∧ Cells (wr.setCell ⟨b, i, none⟩ u) w.heap.size 24 PV ∧ (wr.setCell ⟨b, i, none⟩ u).ownsRow w.heap.size 9 1 (.slice A n cap) n (xs.set i u) ∧ (wr.setCell ⟨b, i, none⟩ u).ownsRow w.heap.size 9 1 pv m ys ∧ Below w.heap.size w (wr.setCell ⟨b, i, none⟩ u) := by
  obtain ⟨b, rfl, hbb, hv, hf, hr'⟩ := own_set hr hi u
  have h1 : Bo ≠ b := fun e => own_ne_block hr hz (by decide) b rfl e.symm
  have h2 : w.heap.size ≠ b := fun e => own_ne_block hr hp (by decide) b rfl e.symm
  have hts : Turns [b] wr (wr.setCell ⟨b, i, none⟩ u) := (Turns.refl _ _).set (.inl (by simp)) _
  exact ⟨b, rfl, hv, hf, hz.far (a := ⟨b, i, none⟩) h1 u, hp.far (a := ⟨b, i, none⟩) h2 u, hr', row_turns hq hts (fun k hk => by
    simp
    intro e
    exact hap b rfl (e ▸ hk)), hb.setCell (p := ⟨b, i, none⟩) hbb u⟩
theorem meas_dec {D k : Nat} (h : k < D) (hD : D ≤ 1024) : D - (intOf (.int .i64 (wrap64 ((k : Int) + 1)))).toNat < D - (intOf (.int .i64 (k : Int))).toNat ∧ D - (intOf (.int .i64 ((k : Int) + 1))).toNat < D - (intOf (.int .i64 (k : Int))).toNat := by
  have e : wrap64 ((k : Int) + 1) = (k : Int) + 1 := by unfold wrap64; omega
  rw [e]
  constructor
  all_goals
    simp [intOf]; omega
set_option maxRecDepth 100000 in
set_option maxHeartbeats 8000000 in
theorem walk {fuel : Int} {A : Option Addr} {l : List Ins} {cap : Nat} (w : World) (hC : CodeIn w w.heap.size A l) (hT : ∀ wz, Below w.heap.size w wz → TabsAt wz) :
    Calls Tryz.prog 3 #[.agg #[.int .i64 fuel, .slice A l.length cap]] w fun e w' => e = .returned (.bool true) ∧ Below w.heap.size w w' := by
  have HB1 := Lib.hid ((Below.refl w.heap.size w).alloc (Nat.le_refl _) (.cells #[.int .i64 fuel, .slice A l.length cap] 24))
  have HP1 := Lib.hid (Cells.new w 24 #[.int .i64 fuel, .slice A l.length cap])
  have hkk : ∀ x ∈ l, x.k < 2 * signB := fun x hx => by
    obtain ⟨i, hi⟩ := List.mem_iff_getElem?.1 hx
    obtain ⟨_, _, _, _, hc⟩ := hC (List.length_pos_of_mem hx)
    exact (hc i x hi).2
  have HSM := Lib.hid (told_small (P := Tryz.prog) w (fuel := fuel) hkk)
  have KW := Lib.hid (fun W (hW : Below w.heap.size w W) => whole_any (fuel := fuel) (cap := cap) W ((hC.keep hW).more hW.size) (tabs_later hT hW))
  have KR := Lib.hid (fun W (hW : Below w.heap.size w W) => rwhole_any (fuel := fuel) (cap := cap) W ((hC.keep hW).more hW.size))
  have KA := Lib.hid (fun W (hW : Below w.heap.size w W) => awake_any W (tabs_later hT hW))
  obtain ⟨i1, hq1, hz1, hsz1, hby1⟩ := info_str
  clear hC hT hkk
  generalize told6 fuel l = O at *
  go_enter Tryz.func3, Tryz.ntmps3
  go_wp2
  go_loopw [3] (fun x wr => ∃ t : Nat, t ≤ 2 ∧ x = .int .i64 (t : Nat) ∧ Cells wr w.heap.size 24 #[.int .i64 fuel, .slice A l.length cap] ∧ Below w.heap.size w wr) (fun x _ => 2 - (intOf x).toNat)
  case atStart => exact ⟨0, by omega, rfl, HP1.out, HB1.out⟩
  case round =>
    clear HP1 HB1
    obtain ⟨t, ht, rfl, hP, hB⟩ := hrel
    have HPx := Lib.hid hP
    have HBx := Lib.hid hB
    have p0 : wr.cell? ⟨w.heap.size, 0, none⟩ = some (.int .i64 fuel) := hP.cell (j := 0) rfl
    have p1 : wr.cell? ⟨w.heap.size, 1, none⟩ = some (.slice A l.length cap) := hP.cell (j := 1) rfl
    clear hP hB
    by_cases ht2 : t < 2
    · have i0 : (t : Int) < 2 := by omega
      have hwt : wrap64 ((t : Int) + 1) = (t : Int) + 1 := by unfold wrap64; omega
      have HMS := Lib.hid (meas_dec ht2 (by omega))
      have HTT := Lib.hid ht2
      clear ht ht2
      go_upto_region 5 with (go_at_call 5; go_loud (with_reducible (refine (KW.out _ HBx.out).mono ?_)); go_loud (rintro _ wb ⟨ch, pi, rfl, hch, hpi, hap, hb2⟩); obtain ⟨Ac, cc, rfl⟩ := own_slice hch; obtain ⟨Ap, cp, rfl⟩ := own_slice hpi; have HCH := Lib.hid (show TextsIn wb w.heap.size _ _ from World.ownsRow.mono hch HBx.out.size); have HPI := Lib.hid (show TextsIn wb w.heap.size _ _ from World.ownsRow.mono hpi HBx.out.size); have HAP := Lib.hid hap; have HBb := Lib.hid (grow_to HBx.out hb2); have HPb := Lib.hid (HPx.out.keep hb2); clear hch hpi hap hb2)
      have hal := (Below.refl wb.heap.size wb).alloc (Nat.le_refl _) (.cells #[.int .i64 O.rc, .int .u64 (O.rb : Nat), .slice Ac O.lc.length cc, .slice Ap O.lp.length cp, .int .i64 (O.st : Nat)] 30)
      have HO := Lib.hid (Cells.new wb 30 #[.int .i64 O.rc, .int .u64 (O.rb : Nat), .slice Ac O.lc.length cc, .slice Ap O.lp.length cp, .int .i64 (O.st : Nat)])
      have HP2 := Lib.hid (HPb.out.keep hal)
      have HB2 := Lib.hid (HBb.out.alloc HBb.out.size (.cells #[.int .i64 O.rc, .int .u64 (O.rb : Nat), .slice Ac O.lc.length cc, .slice Ap O.lp.length cp, .int .i64 (O.st : Nat)] 30))
      have HCH2 := Lib.hid (show TextsIn _ _ _ _ from own_kept HCH.out hal)
      have HPI2 := Lib.hid (show TextsIn _ _ _ _ from own_kept HPI.out hal)
      clear hal HCH HPI HBb HPb HPx HBx p0 p1
      generalize wb.alloc (.cells #[.int .i64 O.rc, .int .u64 (O.rb : Nat), .slice Ac O.lc.length cc, .slice Ap O.lp.length cp, .int .i64 (O.st : Nat)] 30) = w2 at *
      generalize wb.heap.size = Bo at *
      have p0 : w2.cell? ⟨w.heap.size, 0, none⟩ = some (.int .i64 fuel) := HP2.out.cell (j := 0) rfl
      have p1 : w2.cell? ⟨w.heap.size, 1, none⟩ = some (.slice A l.length cap) := HP2.out.cell (j := 1) rfl
      go_upto_region 6 with (go_at_call 6; go_loud (with_reducible (refine (KR.out _ HB2.out).mono ?_)); go_loud (rintro _ wd ⟨ch2, pi2, rfl, hch, hpi, _, hb2⟩); obtain ⟨Ac2, cc2, rfl⟩ := own_slice hch; obtain ⟨Ap2, cp2, rfl⟩ := own_slice hpi; have HCQ := Lib.hid (reads_of hch); have HPQ := Lib.hid (reads_of hpi); have HBd := Lib.hid (grow_to HB2.out hb2); have HPd := Lib.hid (HP2.out.keep hb2); have HOd := Lib.hid (HO.out.keep hb2); have HCHd := Lib.hid (show TextsIn _ _ _ _ from own_kept HCH2.out hb2); have HPId := Lib.hid (show TextsIn _ _ _ _ from own_kept HPI2.out hb2); clear hch hpi hb2)
      have hal := (Below.refl wd.heap.size wd).alloc (Nat.le_refl _) (.cells #[.int .i64 O.rc, .int .u64 (O.rb : Nat), .slice Ac2 O.lc.length cc2, .slice Ap2 O.lp.length cp2, .int .i64 (O.st : Nat)] 30)
      have HX := Lib.hid (Cells.new wd 30 #[.int .i64 O.rc, .int .u64 (O.rb : Nat), .slice Ac2 O.lc.length cc2, .slice Ap2 O.lp.length cp2, .int .i64 (O.st : Nat)])
      have HP4 := Lib.hid (HPd.out.keep hal)
      have HO4 := Lib.hid (HOd.out.keep hal)
      have HB4 := Lib.hid (HBd.out.alloc HBd.out.size (.cells #[.int .i64 O.rc, .int .u64 (O.rb : Nat), .slice Ac2 O.lc.length cc2, .slice Ap2 O.lp.length cp2, .int .i64 (O.st : Nat)] 30))
      have HCH4 := Lib.hid (show TextsIn _ _ _ _ from own_kept HCHd.out hal)
      have HPI4 := Lib.hid (show TextsIn _ _ _ _ from own_kept HPId.out hal)
      have HCQ4 := Lib.hid (HCQ.out.keep hal)
      have HPQ4 := Lib.hid (HPQ.out.keep hal)
      clear hal HCQ HPQ HBd HPd HOd HCHd HPId HP2 HB2 HO HCH2 HPI2 p0 p1
      generalize wd.alloc (.cells #[.int .i64 O.rc, .int .u64 (O.rb : Nat), .slice Ac2 O.lc.length cc2, .slice Ap2 O.lp.length cp2, .int .i64 (O.st : Nat)] 30) = w4 at *
      generalize wd.heap.size = Bx at *
      have ks := sameOutcome_any (code := O.rc) (bits := (O.rb : Nat)) (steps := O.st) (cc := cc) (cp := cp) (cc' := cc2) (cp' := cp2) w4 (reads_of HCH4.out) HCQ4.out (reads_of HPI4.out) HPQ4.out (by have := HSM.out; omega) (by have := HSM.out; omega)
      have KS := Lib.hid ks
      clear ks
      have o0 : w4.cell? ⟨Bo, 0, none⟩ = some (.int .i64 O.rc) := HO4.out.cell (j := 0) rfl
      have o1 : w4.cell? ⟨Bo, 1, none⟩ = some (.int .u64 (O.rb : Nat)) := HO4.out.cell (j := 1) rfl
      have o2 : w4.cell? ⟨Bo, 2, none⟩ = some (.slice Ac O.lc.length cc) := HO4.out.cell (j := 2) rfl
      have o3 : w4.cell? ⟨Bo, 3, none⟩ = some (.slice Ap O.lp.length cp) := HO4.out.cell (j := 3) rfl
      have o4 : w4.cell? ⟨Bo, 4, none⟩ = some (.int .i64 (O.st : Nat)) := HO4.out.cell (j := 4) rfl
      have q0 : w4.cell? ⟨Bx, 0, none⟩ = some (.int .i64 O.rc) := HX.out.cell (j := 0) rfl
      have q1 : w4.cell? ⟨Bx, 1, none⟩ = some (.int .u64 (O.rb : Nat)) := HX.out.cell (j := 1) rfl
      have q2 : w4.cell? ⟨Bx, 2, none⟩ = some (.slice Ac2 O.lc.length cc2) := HX.out.cell (j := 2) rfl
      have q3 : w4.cell? ⟨Bx, 3, none⟩ = some (.slice Ap2 O.lp.length cp2) := HX.out.cell (j := 3) rfl
      have q4 : w4.cell? ⟨Bx, 4, none⟩ = some (.int .i64 (O.st : Nat)) := HX.out.cell (j := 4) rfl
      go_upto_region 8 with (go_at_call 7; go_loud (with_reducible (refine KS.out.mono ?_)); rintro _ w5 ⟨rfl, hb5⟩; have HB5 := Lib.hid (grow_to HB4.out hb5); have HP5 := Lib.hid (HP4.out.keep hb5); have HO5 := Lib.hid (HO4.out.keep hb5); have HCH5 := Lib.hid (show TextsIn _ _ _ _ from own_kept HCH4.out hb5); have HPI5 := Lib.hid (show TextsIn _ _ _ _ from own_kept HPI4.out hb5); clear hb5)
      clear o0 o1 o2 o3 o4 q0 q1 q2 q3 q4 HO4 HP4 HB4 HCH4 HPI4 HCQ4 HPQ4 HX KS KW KR KA
      go_wp2
      go_loopw [8] (fun x wq => ∃ (i : Nat) (xs ys : List Value), i ≤ O.lc.length ∧ x = .int .i64 (i : Nat) ∧ Cells wq Bo 30 #[.int .i64 O.rc, .int .u64 (O.rb : Nat), .slice Ac O.lc.length cc, .slice Ap O.lp.length cp, .int .i64 (O.st : Nat)] ∧ Cells wq w.heap.size 24 #[.int .i64 fuel, .slice A l.length cap] ∧ wq.ownsRow w.heap.size 9 1 (.slice Ac O.lc.length cc) O.lc.length xs ∧ wq.ownsRow w.heap.size 9 1 (.slice Ap O.lp.length cp) O.lp.length ys ∧ Below w.heap.size w wq) (fun x _ => O.lc.length - (intOf x).toNat)
      case atStart => exact ⟨0, _, _, Nat.zero_le _, rfl, HO5.out, HP5.out, HCH5.out, HPI5.out, HB5.out⟩
      case round =>
        clear HO5 HP5 HCH5 HPI5 HB5
        obtain ⟨i, xs, ys, hi, rfl, hZ, hPx, hR, hQ, hBx⟩ := hrel
        have o2 : wr.cell? ⟨Bo, 2, none⟩ = some (.slice Ac O.lc.length cc) := hZ.cell (j := 2) rfl
        by_cases hlt : i < O.lc.length
        · obtain ⟨b, rfl, ⟨v0, hv⟩, hf, z1, z2, z3, z4, z5⟩ := spoil hZ hPx hR hQ HAP.out hBx hlt (.string ⟨#[115, 112, 111, 105, 108, 116]⟩)
          have HE := Lib.hid (And.intro z1 (And.intro z2 (And.intro z3 (And.intro z4 z5))))
          have j0 : (0 : Int) ≤ (i : Int) := by omega
          have j1 : (i : Int) < (O.lc.length : Int) := by omega
          have hwi : wrap64 ((i : Int) + 1) = (i : Int) + 1 := by have := HSM.out; unfold wrap64; omega
          have HMI := Lib.hid (meas_dec hlt (show O.lc.length ≤ 1024 by have := HSM.out; omega))
          have HLI := Lib.hid hlt
          clear hZ hPx hR hQ hBx z1 z2 z3 z4 z5 hi hlt
          go_wp2
          obtain ⟨z1, z2, z3, z4, z5⟩ := HE.out
          exact ⟨⟨i + 1, _, _, HLI.out, by go_num, z1, z2, z3, z4, z5⟩, by first | exact HMI.out.1 | exact HMI.out.2⟩
        · obtain rfl : i = O.lc.length := by omega
          have j1 : ¬ (O.lc.length : Int) < (O.lc.length : Int) := by omega
          have HO5 := Lib.hid hZ
          have HP5 := Lib.hid hPx
          have HCH5 := Lib.hid hR
          have HPI5 := Lib.hid hQ
          have HB5 := Lib.hid hBx
          clear hZ hPx hR hQ hBx hi hlt
          go_wp2
          clear o2
          go_loopw [9] (fun x wq => ∃ (i : Nat) (xs ys : List Value), i ≤ O.lp.length ∧ x = .int .i64 (i : Nat) ∧ Cells wq Bo 30 #[.int .i64 O.rc, .int .u64 (O.rb : Nat), .slice Ac O.lc.length cc, .slice Ap O.lp.length cp, .int .i64 (O.st : Nat)] ∧ Cells wq w.heap.size 24 #[.int .i64 fuel, .slice A l.length cap] ∧ wq.ownsRow w.heap.size 9 1 (.slice Ac O.lc.length cc) O.lc.length xs ∧ wq.ownsRow w.heap.size 9 1 (.slice Ap O.lp.length cp) O.lp.length ys ∧ Below w.heap.size w wq) (fun x _ => O.lp.length - (intOf x).toNat)
          case atStart => exact ⟨0, _, _, Nat.zero_le _, rfl, HO5.out, HP5.out, HCH5.out, HPI5.out, HB5.out⟩
          case round =>
            clear HO5 HP5 HCH5 HPI5 HB5
            obtain ⟨i, xs, ys, hi, rfl, hZ, hPx, hR, hQ, hBx⟩ := hrel
            have o3 : wr.cell? ⟨Bo, 3, none⟩ = some (.slice Ap O.lp.length cp) := hZ.cell (j := 3) rfl
            by_cases hlt : i < O.lp.length
            · obtain ⟨b, rfl, ⟨v0, hv⟩, hf, z1, z2, z3, z4, z5⟩ := spoil hZ hPx hQ hR (fun k h1 h2 => HAP.out k h2 h1) hBx hlt (.string ⟨#[115, 112, 111, 105, 108, 116]⟩)
              have HE := Lib.hid (And.intro z1 (And.intro z2 (And.intro z3 (And.intro z4 z5))))
              have j0 : (0 : Int) ≤ (i : Int) := by omega
              have j1 : (i : Int) < (O.lp.length : Int) := by omega
              have hwi : wrap64 ((i : Int) + 1) = (i : Int) + 1 := by have := HSM.out; unfold wrap64; omega
              have HMI := Lib.hid (meas_dec hlt (show O.lp.length ≤ 1024 by have := HSM.out; omega))
              have HLI := Lib.hid hlt
              clear hZ hPx hR hQ hBx z1 z2 z3 z4 z5 hi hlt
              go_wp2
              obtain ⟨z1, z2, z3, z4, z5⟩ := HE.out
              exact ⟨⟨i + 1, _, _, HLI.out, by go_num, z1, z2, z4, z3, z5⟩, by first | exact HMI.out.1 | exact HMI.out.2⟩
            · obtain rfl : i = O.lp.length := by omega
              have j1 : ¬ (O.lp.length : Int) < (O.lp.length : Int) := by omega
              have HO5 := Lib.hid hZ
              have HP5 := Lib.hid hPx
              have HCH5 := Lib.hid hR
              have HPI5 := Lib.hid hQ
              have HB5 := Lib.hid hBx
              clear hZ hPx hR hQ hBx hi hlt
              go_upto_region 16 with fail
              have o2 : wr.cell? ⟨Bo, 2, none⟩ = some (.slice Ac O.lc.length cc) := HO5.out.cell (j := 2) rfl
              have hwl : wrap64 (O.lc.length : Int) = (O.lc.length : Int) := by have := HSM.out; unfold wrap64; omega
              have hwl2 : wrap64 (((O.lc.length : Int) + 1) - 1) = (O.lc.length : Int) := by have := HSM.out; unfold wrap64; omega
              have j5 : (0 : Int) ≤ (O.lc.length : Int) := by omega
              have j6 : (O.lc.length : Int) < (O.lc.length : Int) + 1 := by omega
              have j7 : (O.lc.length : Int) < ((O.lc.length + 1 : Nat) : Int) := by omega
              go_wp2_with (at_builtin; refine wpList_append_elem' rfl _ _ _ rfl w.heap.size 9 i1 _ 1 16 Tryz.underlying28 hq1 hz1 hsz1 hby1 rfl (by decide) (.slice Ac O.lc.length cc) O.lc.length xs rfl HCH5.out #[.string ⟨#[98, 101, 104, 105, 110, 100]⟩] rfl (by simp [Value.oneCell']) _ rfl (by simp) (by have := HSM.out; omega) (by decide) (by have := HB5.out.size; simp; omega) ?_; intro v' W4 ho4 hgr4 hat4; have HP6 := Lib.hid (cells_grown hgr4 HCH5.out HP5.out (by decide)); have HB6 : Hid (Below w.heap.size w W4) := Lib.hid (HB5.out.grown hgr4 HB5.out.size fun k hk => (HCH5.out.lt k hk).1); obtain ⟨k', cap', rfl⟩ := own_some ho4; obtain ⟨b, hbe, hbb, ⟨v0, hv⟩, hf, hro⟩ := own_set ho4 (Nat.lt_succ_self O.lc.length) (.string ⟨#[115, 112, 111, 105, 108, 116]⟩); injection hbe with hbe; injection hbe with hbe; subst hbe; have HBK := Lib.hid hbb; have HNK : Hid (w.heap.size ≠ k') := Lib.hid (fun e => own_ne_block ho4 HP6.out (by decide) k' rfl e.symm); clear ho4 hgr4 hat4 hro hbb)
              exact ⟨⟨t + 1, HTT.out, by go_num, HP6.out.far (a := ⟨k', O.lc.length, none⟩) HNK.out _, HB6.out.setCell (p := ⟨k', O.lc.length, none⟩) HBK.out _⟩, by first | exact HMS.out.1 | exact HMS.out.2⟩
    · obtain rfl : t = 2 := by omega
      have i0 : ¬ ((2 : Nat) : Int) < 2 := by omega
      clear ht ht2
      go_wp2_with (go_at_call 8; go_loud (with_reducible (refine (KA.out _ HBx.out).mono ?_)); rintro _ w3 ⟨rfl, hb3⟩; have HB3 := Lib.hid (grow_to HBx.out hb3); clear hb3)
      go_ret
      exact ⟨by first | rfl | simp, HB3.out⟩

-- LIFT
set_option maxRecDepth 100000 in
theorem contract (H : Type) (enc : TypeId × Value → H) (W : World) (base : Nat) (args : Array Value) (ds gs : List (DataW H)) (before : List MemPlace)
    (hval : ∀ (j : Nat) t v, Tryz.f3.params[j]? = some t → args[j]? = some v → Value.okWide Tryz.prog W .any base t v)
    (hW : DataW.Whole enc Tryz.prog Tryz.f3.params.toList Rows.interpWholeSpec.vars false W args.toList ds gs before) (hL : laidMetH Tryz.prog Rows.interpWholeRow.laid W) :
    Calls Tryz.prog 3 args W fun e W' => ∃ v, e = .returned v ∧ Rows.interpWholeSpec.post enc Tryz.prog Tryz.f3 false true false false W args v W' := by
  have hT0 := tabs_of (show laidMetH Tryz.prog laidOf W from hL)
  have hT : ∀ wz, Below W.heap.size W wz → TabsAt wz := fun wz hz => tabs_keep hz hT0
  clear hL
  have hts : Tryz.f3.params.toList.all (fun t => Tryz.prog.readableRec t && decide (t < Tryz.prog.types.size)) = true := by kernel_rfl
  have hW' := hW
  obtain ⟨p, q, hA0, hV, rfl, hfz, hnd⟩ := hW
  have hA : DataW.TrodAll enc Tryz.prog W 0 (fun _ => true) true Tryz.f3.params.toList args.toList ds p := hA0
  rw [Tryz.params3] at hA hval
  obtain ⟨v0, vs0, d0, ds0, p0, q0, hargs, rfl, rfl, h0, r0⟩ := trodAll_cons hA
  obtain ⟨rfl, rfl, rfl⟩ := trodAll_nil r0
  obtain rfl : args = #[v0] := by cases args; simp_all
  obtain ⟨rfl, rfl⟩ := trodVars_none hV
  have hfn : Rows.interpWholeSpec.fn H ([d0] ++ []) = { results := [.lit (.bool true)], args := [d0] } := rfl
  have hfin := fun W' (hbel : Below W.heap.size W W') => law_post (f := Tryz.f3) (s := Rows.interpWholeSpec) 4 Tryz.laid hts rfl Tryz.underlying4 rfl hfn hW' hbel
  clear hA0 hts hfn
  obtain ⟨fu0, A0, l0, c0, rfl, hC0, hf0, hg0⟩ := open_prog (hval 0 24 v0 rfl rfl) h0
  exact (walk W hC0 hT).mono fun e W' ⟨he, hg⟩ => ⟨_, he, hfin W' hg⟩

theorem reads (os : Os) {H : Type} (enc : TypeId × Value → H) : ∃ places, DataW.whole enc Tryz.prog ((laidWorld os).forCall (fun _ _ => 0) ⟨#[], #[.agg #[.int .i64 0, .slice none 0 0]], []⟩).memory Tryz.f3.params.toList Rows.interpWholeSpec.vars false #[.agg #[.int .i64 0, .slice none 0 0]].toList 8 = some ([.agg [.lit (.int .i64 0), .nil]], [], places) :=
  ⟨[], by kernel_rfl⟩
theorem laid_met (os : Os) : laidMet Tryz.prog Rows.interpWholeRow.laid ((laidWorld os).forCall (fun _ _ => 0) ⟨#[], #[.agg #[.int .i64 0, .slice none 0 0]], []⟩).memory := laid_here os #[.agg #[.int .i64 0, .slice none 0 0]]

set_option maxRecDepth 100000 in
theorem lifted (os : Os) (started : os.Started) (H : Type) (enc : TypeId × Value → H) (F : Stop.Interp) :
    ReturnsInHanded {} Tryz.checked os 3 .any ((OpenSpec.ofChange Rows.interpWholeSpec).preRow enc Tryz.prog Tryz.f3 Rows.interpWholeRow.domain false Rows.interpWholeRow.laid) (((OpenSpec.ofChange Rows.interpWholeSpec).at F).post enc Tryz.prog Tryz.f3 false true false false) := by
  obtain ⟨places, hx⟩ := reads os enc
  refine returnsInHanded_of_row (C := Tryz.checked) (s := OpenSpec.ofChange Rows.interpWholeSpec) Tryz.own started (by kernel_rfl) Tryz.func3
    (witness_row_atRef (enc := enc) (C := Tryz.checked) false (laidWorld os) #[.agg #[.int .i64 0, .slice none 0 0]] rfl (by kernel_rfl) (by kernel_rfl) (by kernel_rfl)
      (OpenSpec.preRow_of_cond 8 hx (by kernel_rfl) (fun k hk => by cases hk) (by kernel_rfl) (laid_met os))) ?_
  intro W base args ds gs before hval hW _ _ _ hL _ _
  exact contract H enc W base args ds gs before hval hW hL

theorem said : Rows.InterpWholeSaid :=
  OpenClaim.holds_of_cond 3 Tryz.f3 rfl rfl rfl rfl rfl rfl rfl ⟨rfl, rfl, rfl, rfl, rfl⟩ rfl rfl rfl rfl rfl (by kernel_rfl) Tryz.func3 (by kernel_rfl)
    (of_decide_eq_true (by kernel_rfl)) (by unfold Func.isWrapper; first | (rw [if_pos (by decide +kernel)]; kernel_rfl) | (rw [if_neg (by decide +kernel)]; exact ⟨rfl, rfl⟩))
    (fun os started H enc _ F => by rw [OpenClaim.pre_eq_preRow]; exact lifted os started H enc F)

theorem plain (f : FuncId) (fn : Func) (hf : Tryz.pinned.checked.prog.funcNamed "gaffer/gafferlaw06.InterpWhole" = some f) (hfn : Tryz.pinned.checked.prog.funcs[f]? = some fn) :
    true = Tryz.pinned.checked.prog.looks [] ∧ ∀ (j : Nat) t, fn.params[j]? = some t → Tryz.pinned.checked.prog.wantsStandIn t = false := by
  obtain rfl : f = 3 := Option.some.inj ((show Tryz.prog.funcNamed "gaffer/gafferlaw06.InterpWhole" = some 3 by kernel_rfl).symm.trans hf) |>.symm
  obtain rfl : fn = Tryz.f3 := (Option.some.inj (Tryz.func3.symm.trans hfn)).symm
  refine ⟨by kernel_rfl, fun j t ht => ?_⟩
  rw [Tryz.params3] at ht
  have hm := Array.mem_of_getElem? ht
  simp only [List.mem_toArray, List.mem_cons, List.not_mem_nil, or_false] at hm
  rcases hm with rfl
  · exact (show Tryz.prog.wantsStandIn 24 = false by kernel_rfl)

theorem proved : Rows.InterpWholeCardSaid :=
  Claim7.holds_tied_plain_at .later [] _ _ _ _ said (fun _ h => by cases h) (by kernel_rfl) (fun _ h => by cases h) interpWhole_row_tie rfl ⟨rfl, rfl⟩ (by kernel_rfl) rfl plain (by kernel_rfl)

end Go.Proofs.YtjloiclbknfomaaGreatDoor.interpWhole
