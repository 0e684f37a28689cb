/- InterpFuel: more fuel changes nothing of a program that ends by itself; one that runs out of it has told a beginning: as a row and as a card. -/
import Derived.Test.YtjloiclbknfomaaDoorKv
import Derived.Test.YtjloiclbknfomaaDoorKh
import Derived.Test.YtjloiclbknfomaaDoorKf
import Derived.Test.YtjloiclbknfomaaDoorKo
set_option maxRecDepth 100000
namespace Go.Proofs.YtjloiclbknfomaaDoor.interpFuel
open Go.RowKit Go.WideShapes Go.ChangeShapes Go.ChangeAt Ieee

theorem few {fuel : Nat} {l : List Ins} (h : fuel ≤ 1024) : (chunksOf (wholeM fuel l).2).length < 1073741824 ∧ (piecesOf (wholeM fuel l).2).length < 1073741824 := by
  have h1 := acts_len fuel (newM fuel l)
  have h2 : (chunksOf (wholeM fuel l).2).length ≤ (wholeM fuel l).2.length := by unfold chunksOf; rw [List.length_map]; exact List.length_filter_le _ _
  have h3 : (piecesOf (wholeM fuel l).2).length ≤ (wholeM fuel l).2.length := by unfold piecesOf; rw [List.length_map]; exact List.length_filter_le _ _
  unfold wholeM at *
  omega
theorem chunks_append (a b : List (Int × List UInt8)) : chunksOf (a ++ b) = chunksOf a ++ chunksOf b := by simp [chunksOf]
theorem pieces_append (a b : List (Int × List UInt8)) : piecesOf (a ++ b) = piecesOf a ++ piecesOf b := by simp [piecesOf]

theorem slice_cap {A : Option Addr} {n cap : Nat} (h : (Value.slice A n cap = .slice none 0 0 ∧ n = 0) ∨ ∃ g cap', Value.slice A n cap = .slice (some ⟨g, 0, none⟩) n cap' ∧ n ≤ cap') : n ≤ cap := by
  rcases h with ⟨_, h⟩ | ⟨g, c, h, hl⟩
  · omega
  · injection h with _ _ h
    omega
set_option maxHeartbeats 4000000 in
set_option maxRecDepth 100000 in
theorem walk_bad {fuel : Int} {A : Option Addr} {l : List Ins} {cap : Nat} {more : Int} (w : World) (hC : CodeIn w w.heap.size A l) (hT : ∀ wz, Below w.heap.size w wz → TabsAt wz) (hne : (progCheck fuel l).1 ≠ 0) :
    Calls Tryd.prog 4 #[.agg #[.int .i64 fuel, .slice A l.length cap], .int .i64 more] w fun e w' => e = .returned (.bool true) ∧ Below w.heap.size w w' := by
  have HB1 := Lib.hid ((Below.refl w.heap.size w).alloc (Nat.le_refl _) (.cells #[.int .i64 fuel, .slice A l.length cap] 24))
  have kw := whole_bad (fuel := fuel) (cap := cap) (w.alloc (.cells #[.int .i64 fuel, .slice A l.length cap] 24)) ((hC.keep HB1.out).more HB1.out.size) hne
  have ka := fun W (hW : Below w.heap.size w W) => awake_any W (tabs_later hT hW)
  have KA := Lib.hid ka
  have KW := Lib.hid kw
  have t1 : ((progCheck fuel l).1 == 0) = false := by rw [beq_eq_false_iff_ne]; exact hne
  have t2 : ((progCheck fuel l).1 != 0) = true := by simp [bne, t1]
  clear hC hT kw ka hne
  generalize (progCheck fuel l).1 = pe at *
  go_enter Tryd.func4, Tryd.ntmps4
  go_wp2_with (first | (go_at_call 8; go_loud (refine KW.out.mono ?_); rintro _ w2 ⟨rfl, hb2⟩; have HB2 := Lib.hid ((grow_to HB1.out hb2).alloc (grow_to HB1.out hb2).size (.cells #[.int .i64 0, .int .u64 0, .slice none 0 0, .slice none 0 0, .int .i64 0] 35)); clear hb2) | (go_at_call 9; go_loud (refine (KA.out _ HB2.out).mono ?_); rintro _ w3 ⟨rfl, hb3⟩; have HB3 := Lib.hid (grow_to HB2.out hb3); clear hb3))
  go_ret
  exact ⟨by first | rfl | simp, HB3.out⟩

set_option maxHeartbeats 8000000 in
set_option maxRecDepth 100000 in
theorem walk_good {f : Nat} {A : Option Addr} {l : List Ins} {cap : Nat} {more : Int} (w : World) (hC : CodeIn w w.heap.size A l) (hT : ∀ wz, Below w.heap.size w wz → TabsAt wz) (hok : (progCheck f l).1 = 0) (hm0 : -9223372036854775808 ≤ more) (hm1 : more ≤ 9223372036854775807) :
    Calls Tryd.prog 4 #[.agg #[.int .i64 (f : Nat), .slice A l.length cap], .int .i64 more] w fun e w' => e = .returned (.bool true) ∧ Below w.heap.size w w' := by
  have HB1 := Lib.hid ((Below.refl w.heap.size w).alloc (Nat.le_refl _) (.cells #[.int .i64 (f : Nat), .slice A l.length cap] 24))
  have HP1 := Lib.hid (Cells.new w 24 #[.int .i64 (f : Nat), .slice A l.length cap])
  have kw := whole_good (fuel := f) (cap := cap) (w.alloc (.cells #[.int .i64 (f : Nat), .slice A l.length cap] 24)) ((hC.keep HB1.out).more HB1.out.size) hok (tabs_later hT HB1.out)
  have KA := Lib.hid (fun W (hW : Below w.heap.size w W) => awake_any W (tabs_later hT hW))
  obtain ⟨⟨hf1, hf2⟩, hlen, hins⟩ := progCheck_ok hok
  have hf1' : 1 ≤ f := by omega
  have hf2' : f ≤ 1024 := by omega
  have hkk : ∀ x ∈ l, x.k < 2 * signB := fun x hx => by
    obtain ⟨i, hi⟩ := List.mem_iff_getElem?.1 hx
    obtain ⟨_, _, _, _, hc⟩ := hC (by omega)
    exact (hc i x hi).2
  obtain ⟨hfc, hfp⟩ := few (l := l) hf2'
  have HF := Lib.hid (And.intro hfc hfp)
  have HOK := Lib.hid hok
  have HKK := Lib.hid hkk
  have HC := Lib.hid hC
  have HT := Lib.hid hT
  have HLI := Lib.hid (And.intro hlen hins)
  obtain ⟨M1, hM1⟩ : ∃ M1, wholeM f l = M1 := ⟨_, rfl⟩
  rw [hM1] at kw HF
  have HM1 := Lib.hid hM1
  have KW := Lib.hid kw
  clear hC hT kw hok hlen hins hkk hM1 hf1 hf2 hfc hfp
  go_enter Tryd.func4, Tryd.ntmps4
  go_upto_region 2 with (go_at_call 8; go_loud (refine KW.out.mono ?_); go_loud (rintro _ wb ⟨ch, pi, rfl, hch, hpi, _, hb2⟩); obtain ⟨Ac, cc, rfl⟩ := own_slice hch; obtain ⟨Ap, cp, rfl⟩ := own_slice hpi; have HCH := Lib.hid (reads_of hch); have HPI := Lib.hid (reads_of hpi); have HBb := Lib.hid (grow_to HB1.out hb2); have HPb := Lib.hid (HP1.out.keep hb2); clear hch hpi hb2)
  have HO := Lib.hid (Cells.new wb 35 #[.int .i64 M1.1.rcode, .int .u64 (M1.1.rbits : Nat), .slice Ac (chunksOf M1.2).length cc, .slice Ap (piecesOf M1.2).length cp, .int .i64 (M1.1.done : Nat)])
  have hal := (Below.refl wb.heap.size wb).alloc (Nat.le_refl _) (.cells #[.int .i64 M1.1.rcode, .int .u64 (M1.1.rbits : Nat), .slice Ac (chunksOf M1.2).length cc, .slice Ap (piecesOf M1.2).length cp, .int .i64 (M1.1.done : Nat)] 35)
  have HB2 := Lib.hid (HBb.out.alloc HBb.out.size (.cells #[.int .i64 M1.1.rcode, .int .u64 (M1.1.rbits : Nat), .slice Ac (chunksOf M1.2).length cc, .slice Ap (piecesOf M1.2).length cp, .int .i64 (M1.1.done : Nat)] 35))
  have HP2 := Lib.hid (HPb.out.alloc (.cells #[.int .i64 M1.1.rcode, .int .u64 (M1.1.rbits : Nat), .slice Ac (chunksOf M1.2).length cc, .slice Ap (piecesOf M1.2).length cp, .int .i64 (M1.1.done : Nat)] 35))
  have HCH2 := Lib.hid (HCH.out.keep hal)
  have HPI2 := Lib.hid (HPI.out.keep hal)
  clear hal HBb HPb HCH HPI KW HB1 HP1
  generalize wb.alloc (.cells #[.int .i64 M1.1.rcode, .int .u64 (M1.1.rbits : Nat), .slice Ac (chunksOf M1.2).length cc, .slice Ap (piecesOf M1.2).length cp, .int .i64 (M1.1.done : Nat)] 35) = w2 at *
  generalize wb.heap.size = Bo at *
  go_upto_region 4 with (go_at_call 9; go_loud (refine (KA.out _ HB2.out).mono ?_); rintro _ w3 ⟨rfl, hb3⟩; have HB3 := Lib.hid (grow_to HB2.out hb3); have HP3 := Lib.hid (HP2.out.keep hb3); have HO3 := Lib.hid (HO.out.keep hb3); have HCH3 := Lib.hid (HCH2.out.keep hb3); have HPI3 := Lib.hid (HPI2.out.keep hb3); clear hb3)
  clear HB2 HP2 HO HCH2 HPI2 KA
  have p0 : w3.cell? ⟨w.heap.size, 0, none⟩ = some (.int .i64 (f : Nat)) := HP3.out.cell (j := 0) rfl
  have p1 : w3.cell? ⟨w.heap.size, 1, none⟩ = some (.slice A l.length cap) := HP3.out.cell (j := 1) rfl
  have hsub : wrap64 (1024 - (f : Int)) = 1024 - (f : Int) := by unfold wrap64; omega
  by_cases h1 : more < 1
  · go_wp2
    go_ret
    exact ⟨by first | rfl | simp, HB3.out⟩
  by_cases h2 : 1024 - (f : Int) < more
  · go_wp2
    go_ret
    exact ⟨by first | rfl | simp, HB3.out⟩
  obtain ⟨mo, rfl⟩ := Int.eq_ofNat_of_zero_le (show 0 ≤ more by omega)
  have hmo : 1 ≤ mo := by omega
  have hfm : f + mo ≤ 1024 := by omega
  have hok2 : (progCheck ((f + mo : Nat) : Int) l).1 = 0 := by
    have h := HOK.out
    unfold progCheck at h ⊢
    rw [if_neg (by omega)] at h
    rw [if_neg (by omega)]
    exact h
  have hlaw := fuel_law (P := Tryd.prog) w HOK.out HKK.out hmo hok2
  rw [HM1.out] at hlaw
  have hcast : ((f + mo : Nat) : Int) = (f : Int) + (mo : Int) := by omega
  have hwr : wrap64 ((f : Int) + (mo : Int)) = (f : Int) + (mo : Int) := by unfold wrap64; omega
  have hg1 : ¬ ((mo : Int) < 1) := by omega
  have hg2 : ¬ (1024 - (f : Int) < (mo : Int)) := by omega
  obtain ⟨hfc2, hfp2⟩ := few (l := l) hfm
  have HF2 := Lib.hid (And.intro hfc2 hfp2)
  have kw2 := fun W (hW : Below w.heap.size w W) => whole_good (fuel := f + mo) (cap := cap) W ((HC.out.keep hW).more hW.size) hok2 (tabs_later HT.out hW)
  obtain ⟨M2, hM2⟩ : ∃ M2, wholeM (f + mo) l = M2 := ⟨_, rfl⟩
  rw [hM2] at hlaw kw2 HF2
  rw [hcast] at kw2
  have HLAW := Lib.hid hlaw
  have KW2 := Lib.hid kw2
  clear hlaw kw2 hM2 hok2 hcast hfc2 hfp2 h1 h2
  have HB4 := Lib.hid (HB3.out.alloc HB3.out.size (.cells #[.int .i64 ((f : Int) + (mo : Int)), .slice A l.length cap] 24))
  have hal := (Below.refl w3.heap.size w3).alloc (Nat.le_refl _) (.cells #[.int .i64 ((f : Int) + (mo : Int)), .slice A l.length cap] 24)
  have HP4 := Lib.hid (HP3.out.keep hal)
  have HO4 := Lib.hid (HO3.out.keep hal)
  have HCH4 := Lib.hid (HCH3.out.keep hal)
  have HPI4 := Lib.hid (HPI3.out.keep hal)
  clear hal
  go_upto_region 9 with (go_at_call 8; go_loud (refine (KW2.out _ HB4.out).mono ?_); go_loud (rintro _ w5 ⟨ch2, pi2, rfl, hch, hpi, _, hb2⟩); obtain ⟨Ac2, cc2, rfl⟩ := own_slice hch; obtain ⟨Ap2, cp2, rfl⟩ := own_slice hpi; have hqc := own_shape hch; have hqp := own_shape hpi; have HCQ := Lib.hid (reads_of hch); have HPQ := Lib.hid (reads_of hpi); have HB5 := Lib.hid (grow_to HB4.out hb2); have HP5 := Lib.hid (HP4.out.keep hb2); have HO5 := Lib.hid (HO4.out.keep hb2); have HCH5 := Lib.hid (HCH4.out.keep hb2); have HPI5 := Lib.hid (HPI4.out.keep hb2); have HCAP := Lib.hid (And.intro (slice_cap hqc) (slice_cap hqp)); clear hch hpi hb2 hqc hqp)
  have HX := Lib.hid (Cells.new w5 35 #[.int .i64 M2.1.rcode, .int .u64 (M2.1.rbits : Nat), .slice Ac2 (chunksOf M2.2).length cc2, .slice Ap2 (piecesOf M2.2).length cp2, .int .i64 (M2.1.done : Nat)])
  have hal := (Below.refl w5.heap.size w5).alloc (Nat.le_refl _) (.cells #[.int .i64 M2.1.rcode, .int .u64 (M2.1.rbits : Nat), .slice Ac2 (chunksOf M2.2).length cc2, .slice Ap2 (piecesOf M2.2).length cp2, .int .i64 (M2.1.done : Nat)] 35)
  have HB6 := Lib.hid (HB5.out.alloc HB5.out.size (.cells #[.int .i64 M2.1.rcode, .int .u64 (M2.1.rbits : Nat), .slice Ac2 (chunksOf M2.2).length cc2, .slice Ap2 (piecesOf M2.2).length cp2, .int .i64 (M2.1.done : Nat)] 35))
  have HP6 := Lib.hid (HP5.out.keep hal)
  have HO6 := Lib.hid (HO5.out.keep hal)
  have HCH6 := Lib.hid (HCH5.out.keep hal)
  have HPI6 := Lib.hid (HPI5.out.keep hal)
  have HCQ6 := Lib.hid (HCQ.out.keep hal)
  have HPQ6 := Lib.hid (HPQ.out.keep hal)
  clear hal HB3 HP3 HO3 HCH3 HPI3 HB4 HP4 HO4 HCH4 HPI4 HB5 HP5 HO5 HCH5 HPI5 HCQ HPQ KW2 p0 p1 hsub hwr
  generalize w5.alloc (.cells #[.int .i64 M2.1.rcode, .int .u64 (M2.1.rbits : Nat), .slice Ac2 (chunksOf M2.2).length cc2, .slice Ap2 (piecesOf M2.2).length cp2, .int .i64 (M2.1.done : Nat)] 35) = w6 at *
  generalize w5.heap.size = Bq at *
  have o0 : w6.cell? ⟨Bo, 0, none⟩ = some (.int .i64 M1.1.rcode) := HO6.out.cell (j := 0) rfl
  have o1 : w6.cell? ⟨Bo, 1, none⟩ = some (.int .u64 (M1.1.rbits : Nat)) := HO6.out.cell (j := 1) rfl
  have o2 : w6.cell? ⟨Bo, 2, none⟩ = some (.slice Ac (chunksOf M1.2).length cc) := HO6.out.cell (j := 2) rfl
  have o3 : w6.cell? ⟨Bo, 3, none⟩ = some (.slice Ap (piecesOf M1.2).length cp) := HO6.out.cell (j := 3) rfl
  have o4 : w6.cell? ⟨Bo, 4, none⟩ = some (.int .i64 (M1.1.done : Nat)) := HO6.out.cell (j := 4) rfl
  have q0 : w6.cell? ⟨Bq, 0, none⟩ = some (.int .i64 M2.1.rcode) := HX.out.cell (j := 0) rfl
  have q1 : w6.cell? ⟨Bq, 1, none⟩ = some (.int .u64 (M2.1.rbits : Nat)) := HX.out.cell (j := 1) rfl
  have q2 : w6.cell? ⟨Bq, 2, none⟩ = some (.slice Ac2 (chunksOf M2.2).length cc2) := HX.out.cell (j := 2) rfl
  have q3 : w6.cell? ⟨Bq, 3, none⟩ = some (.slice Ap2 (piecesOf M2.2).length cp2) := HX.out.cell (j := 3) rfl
  have q4 : w6.cell? ⟨Bq, 4, none⟩ = some (.int .i64 (M2.1.done : Nat)) := HX.out.cell (j := 4) rfl
  have p0 : w6.cell? ⟨w.heap.size, 0, none⟩ = some (.int .i64 (f : Nat)) := HP6.out.cell (j := 0) rfl
  by_cases hr : M1.1.rcode = 1
  · obtain ⟨d1, d2, r, d3⟩ := HLAW.out.2 hr
    have e1 : chunksOf M2.2 = chunksOf M1.2 ++ chunksOf r := by rw [d3, chunks_append]
    have e2 : piecesOf M2.2 = piecesOf M1.2 ++ piecesOf r := by rw [d3, pieces_append]
    have kb1 := begins_any (cap := cc) (cap' := cc2) (n' := (chunksOf M2.2).length) w6 HCH6.out (e1 ▸ HCQ6.out) (by rw [e1]) HCAP.out.1 (e1 ▸ HF2.out.1)
    have kb2 := fun n => begins_any (cap := cp) (cap' := cp2) (n' := (piecesOf M2.2).length) (w6.drewN n) HPI6.out (e2 ▸ HPQ6.out) (by rw [e2]) HCAP.out.2 (e2 ▸ HF2.out.2)
    have t1 : (M1.1.rcode == 1) = true := by rw [beq_iff_eq]; exact hr
    have t2 : (((M1.1.done : Nat) : Int) == (f : Int)) = true := by rw [beq_iff_eq]; omega
    have t3 : ((M1.1.done : Nat) : Int) < ((M2.1.done : Nat) : Int) := by omega
    have KB1 := Lib.hid kb1
    have KB2 := Lib.hid kb2
    clear kb1 kb2 d1 d2 d3 e1 e2 hr
    go_wp2_with (first | (go_at_call 18; with_reducible (refine KB1.out.mono ?_); rintro _ _ ⟨rfl, kd, rfl⟩) | (go_at_call 18; with_reducible (refine (KB2.out _).mono ?_); rintro _ _ ⟨rfl, ke, rfl⟩))
    go_ret
    exact ⟨by first | rfl | simp, by first | exact below_drewN HB6.out _ | exact below_drewN (below_drewN HB6.out _) _⟩
  · obtain ⟨d0, d1, d2, d3⟩ := HLAW.out.1 hr
    have t1 : (M1.1.rcode == 1) = false := by rw [beq_eq_false_iff_ne]; exact hr
    rw [d0] at q0
    rw [d1] at q1
    rw [d2] at q4
    rw [d3] at q2 q3 HCQ6 HPQ6
    have ks := sameOutcome_any (code := M1.1.rcode) (bits := (M1.1.rbits : Nat)) (steps := M1.1.done) (cc := cc) (cp := cp) (cc' := cc2) (cp' := cp2) w6 HCH6.out HCQ6.out HPI6.out HPQ6.out HF.out.1 HF.out.2
    have KS := Lib.hid ks
    clear ks d0 d1 d2 d3 hr
    go_wp2_with (go_at_call 17; go_loud (refine KS.out.mono ?_); rintro _ w7 ⟨rfl, hb7⟩; have HB7 := Lib.hid (grow_to HB6.out hb7); clear hb7)
    go_ret
    exact ⟨by first | rfl | simp, HB7.out⟩
theorem walk {fuel : Int} {A : Option Addr} {l : List Ins} {cap : Nat} {more : Int} (w : World) (hC : CodeIn w w.heap.size A l) (hT : ∀ wz, Below w.heap.size w wz → TabsAt wz) (hm0 : -9223372036854775808 ≤ more) (hm1 : more ≤ 9223372036854775807) :
    Calls Tryd.prog 4 #[.agg #[.int .i64 fuel, .slice A l.length cap], .int .i64 more] w fun e w' => e = .returned (.bool true) ∧ Below w.heap.size w w' := by
  by_cases hne : (progCheck fuel l).1 = 0
  · obtain ⟨f, rfl⟩ := Int.eq_ofNat_of_zero_le (show 0 ≤ fuel by have := (progCheck_ok hne).1; omega)
    exact walk_good w hC hT hne hm0 hm1
  · exact walk_bad w hC hT hne

-- LIFT
set_option maxRecDepth 100000 in
theorem contract (H : Type) (enc : TypeId × Value → H) (W : World) (base : Nat) (args : Array Value) (ds gs : List (DataW H)) (before : List MemPlace)
    (hval : ∀ (j : Nat) t v, Tryd.f4.params[j]? = some t → args[j]? = some v → Value.okWide Tryd.prog W .any base t v)
    (hW : DataW.Whole enc Tryd.prog Tryd.f4.params.toList Rows.interpFuelSpec.vars false W args.toList ds gs before) (hL : laidMetH Tryd.prog Rows.interpFuelRow.laid W) :
    Calls Tryd.prog 4 args W fun e W' => ∃ v, e = .returned v ∧ Rows.interpFuelSpec.post enc Tryd.prog Tryd.f4 false true false false W args v W' := by
  have hT0 := tabs_of (show laidMetH Tryd.prog laidOf W from hL)
  have hT : ∀ wz, Below W.heap.size W wz → TabsAt wz := fun wz hz => tabs_keep hz hT0
  clear hL
  have hts : Tryd.f4.params.toList.all (fun t => Tryd.prog.readableRec t && decide (t < Tryd.prog.types.size)) = true := by kernel_rfl
  have hW' := hW
  obtain ⟨p, q, hA0, hV, rfl, hfz, hnd⟩ := hW
  have hA : DataW.TrodAll enc Tryd.prog W 0 (fun _ => true) true Tryd.f4.params.toList args.toList ds p := hA0
  rw [Tryd.params4] at hA hval
  obtain ⟨v0, vs0, d0, ds0, p0, q0, hargs, rfl, rfl, h0, r0⟩ := trodAll_cons hA
  obtain ⟨v1, vs1, d1, ds1, p1, q1, rfl, rfl, rfl, h1, r1⟩ := trodAll_cons r0
  obtain ⟨rfl, rfl, rfl⟩ := trodAll_nil r1
  obtain rfl : args = #[v0, v1] := by cases args; simp_all
  obtain ⟨rfl, rfl⟩ := trodVars_none hV
  have hfn : Rows.interpFuelSpec.fn H ([d0, d1] ++ []) = { results := [.lit (.bool true)], args := [d0, d1] } := rfl
  have hfin := fun W' (hbel : Below W.heap.size W W') => law_post (f := Tryd.f4) (s := Rows.interpFuelSpec) 4 Tryd.laid hts rfl Tryd.underlying4 rfl hfn hW' hbel
  clear hA0 hts hfn
  obtain ⟨a1, rfl, rfl, rfl, w1⟩ := open_int Tryd.underlying3 (hval 1 3 v1 rfl rfl) h1
  obtain ⟨fu0, A0, l0, c0, rfl, hC0, hf0, hg0⟩ := open_prog (hval 0 24 v0 rfl rfl) h0
  have x1 : -9223372036854775808 ≤ a1 ∧ a1 ≤ 9223372036854775807 := by simpa [Lit.wf, IntKind.min, IntKind.max, IntKind.signed, IntKind.bits] using w1
  exact (walk W hC0 hT x1.1 x1.2).mono fun e W' ⟨he, hg⟩ => ⟨_, he, hfin W' hg⟩

theorem reads (os : Os) {H : Type} (enc : TypeId × Value → H) : ∃ places, DataW.whole enc Tryd.prog ((laidWorld os).forCall (fun _ _ => 0) ⟨#[], #[.agg #[.int .i64 0, .slice none 0 0], .int .i64 0], []⟩).memory Tryd.f4.params.toList Rows.interpFuelSpec.vars false #[.agg #[.int .i64 0, .slice none 0 0], .int .i64 0].toList 8 = some ([.agg [.lit (.int .i64 0), .nil], .lit (.int .i64 0)], [], places) :=
  ⟨[], by kernel_rfl⟩
theorem laid_met (os : Os) : laidMet Tryd.prog Rows.interpFuelRow.laid ((laidWorld os).forCall (fun _ _ => 0) ⟨#[], #[.agg #[.int .i64 0, .slice none 0 0], .int .i64 0], []⟩).memory := laid_here os #[.agg #[.int .i64 0, .slice none 0 0], .int .i64 0]

set_option maxRecDepth 100000 in
theorem lifted (os : Os) (started : os.Started) (H : Type) (enc : TypeId × Value → H) (F : Stop.Interp) :
    ReturnsInHanded {} Tryd.checked os 4 .any ((OpenSpec.ofChange Rows.interpFuelSpec).preRow enc Tryd.prog Tryd.f4 Rows.interpFuelRow.domain false Rows.interpFuelRow.laid) (((OpenSpec.ofChange Rows.interpFuelSpec).at F).post enc Tryd.prog Tryd.f4 false true false false) := by
  obtain ⟨places, hx⟩ := reads os enc
  refine returnsInHanded_of_row (C := Tryd.checked) (s := OpenSpec.ofChange Rows.interpFuelSpec) Tryd.own started (by kernel_rfl) Tryd.func4
    (witness_row_atRef (enc := enc) (C := Tryd.checked) false (laidWorld os) #[.agg #[.int .i64 0, .slice none 0 0], .int .i64 0] rfl (by kernel_rfl) (by kernel_rfl) (by kernel_rfl)
      (OpenSpec.preRow_of_cond 8 hx (by kernel_rfl) (fun k hk => by cases hk) (by kernel_rfl) (laid_met os))) ?_
  intro W base args ds gs before hval hW _ _ _ hL _ _
  exact contract H enc W base args ds gs before hval hW hL

theorem said : Rows.InterpFuelSaid :=
  OpenClaim.holds_of_cond 4 Tryd.f4 rfl rfl rfl rfl rfl rfl rfl ⟨rfl, rfl, rfl, rfl, rfl⟩ rfl rfl rfl rfl rfl (by kernel_rfl) Tryd.func4 (by kernel_rfl)
    (of_decide_eq_true (by kernel_rfl)) (by unfold Func.isWrapper; first | (rw [if_pos (by decide +kernel)]; kernel_rfl) | (rw [if_neg (by decide +kernel)]; exact ⟨rfl, rfl⟩))
    (fun os started H enc _ F => by rw [OpenClaim.pre_eq_preRow]; exact lifted os started H enc F)

theorem plain (f : FuncId) (fn : Func) (hf : Tryd.pinned.checked.prog.funcNamed "gaffer/gafferlaw06.InterpFuel" = some f) (hfn : Tryd.pinned.checked.prog.funcs[f]? = some fn) :
    true = Tryd.pinned.checked.prog.looks [] ∧ ∀ (j : Nat) t, fn.params[j]? = some t → Tryd.pinned.checked.prog.wantsStandIn t = false := by
  obtain rfl : f = 4 := Option.some.inj ((show Tryd.prog.funcNamed "gaffer/gafferlaw06.InterpFuel" = some 4 by kernel_rfl).symm.trans hf) |>.symm
  obtain rfl : fn = Tryd.f4 := (Option.some.inj (Tryd.func4.symm.trans hfn)).symm
  refine ⟨by kernel_rfl, fun j t ht => ?_⟩
  rw [Tryd.params4] at ht
  have hm := Array.mem_of_getElem? ht
  simp only [List.mem_toArray, List.mem_cons, List.not_mem_nil, or_false] at hm
  rcases hm with rfl | rfl
  · exact (show Tryd.prog.wantsStandIn 24 = false by kernel_rfl)
  · exact (show Tryd.prog.wantsStandIn 3 = false by kernel_rfl)

theorem proved : Rows.InterpFuelCardSaid :=
  Claim7.holds_tied_plain_at .later [] _ _ _ _ said (fun _ h => by cases h) (by kernel_rfl) (fun _ h => by cases h) interpFuel_row_tie rfl ⟨rfl, rfl⟩ (by kernel_rfl) rfl plain (by kernel_rfl)

end Go.Proofs.YtjloiclbknfomaaDoor.interpFuel
