/- InterpStraight: a program without jumps does each instruction once, in order: as a row and as a card. -/
import Derived.Test.YtjloiclbknfomaaDoorKv
import Derived.Test.YtjloiclbknfomaaDoorKg
import Derived.Test.YtjloiclbknfomaaDoorKl
import Derived.Test.YtjloiclbknfomaaDoorKo
set_option maxRecDepth 100000
namespace Go.Proofs.YtjloiclbknfomaaDoor.interpStraight
open Go.RowKit Go.WideShapes Go.ChangeShapes Go.ChangeAt Ieee

theorem meas_dec {D k : Nat} (h : k < D) (hD : D ≤ 64) : D - (intOf (.int .i64 (wrap64 ((k : Int) + 1)))).toNat < D - (intOf (.int .i64 (k : Int))).toNat := by
  have e : wrap64 ((k : Int) + 1) = (k : Int) + 1 := by unfold wrap64; omega
  rw [e]
  simp [intOf]; omega
set_option maxHeartbeats 4000000 in
set_option maxRecDepth 100000 in
theorem walk_bad {fuel : Int} {A : Option Addr} {l : List Ins} {cap : Nat} (w : World) (hC : CodeIn w w.heap.size A l) (hT : ∀ wz, Below w.heap.size w wz → TabsAt wz) (hne : (progCheck fuel l).1 ≠ 0) :
    Calls Tryd.prog 5 #[.agg #[.int .i64 fuel, .slice A l.length cap]] w fun e w' => e = .returned (.bool true) ∧ Below w.heap.size w w' := by
  have HB1 := Lib.hid ((Below.refl w.heap.size w).alloc (Nat.le_refl _) (.cells #[.int .i64 fuel, .slice A l.length cap] 24))
  have kw := whole_bad (fuel := fuel) (cap := cap) (w.alloc (.cells #[.int .i64 fuel, .slice A l.length cap] 24)) ((hC.keep HB1.out).more HB1.out.size) hne
  have ka := fun W (hW : Below w.heap.size w W) => awake_any W (tabs_later hT hW)
  have KA := Lib.hid ka
  have KW := Lib.hid kw
  have t1 : ((progCheck fuel l).1 == 0) = false := by rw [beq_eq_false_iff_ne]; exact hne
  have t2 : ((progCheck fuel l).1 != 0) = true := by simp [bne, t1]
  clear hC hT kw ka hne
  generalize (progCheck fuel l).1 = pe at *
  go_enter Tryd.func5, Tryd.ntmps5
  go_wp2_with (first | (go_at_call 8; go_loud (refine KW.out.mono ?_); rintro _ w2 ⟨rfl, hb2⟩; have HB2 := Lib.hid ((grow_to HB1.out hb2).alloc (grow_to HB1.out hb2).size (.cells #[.int .i64 0, .int .u64 0, .slice none 0 0, .slice none 0 0, .int .i64 0] 35)); clear hb2) | (go_at_call 9; go_loud (refine (KA.out _ HB2.out).mono ?_); rintro _ w3 ⟨rfl, hb3⟩; have HB3 := Lib.hid (grow_to HB2.out hb3); clear hb3))
  go_ret
  exact ⟨by first | rfl | simp, HB3.out⟩

set_option maxHeartbeats 8000000 in
set_option maxRecDepth 100000 in
theorem walk_good {f : Nat} {A : Option Addr} {l : List Ins} {cap : Nat} (w : World) (hC : CodeIn w w.heap.size A l) (hT : ∀ wz, Below w.heap.size w wz → TabsAt wz) (hok : (progCheck f l).1 = 0) :
    Calls Tryd.prog 5 #[.agg #[.int .i64 (f : Nat), .slice A l.length cap]] w fun e w' => e = .returned (.bool true) ∧ Below w.heap.size w w' := by
  have HB1 := Lib.hid ((Below.refl w.heap.size w).alloc (Nat.le_refl _) (.cells #[.int .i64 (f : Nat), .slice A l.length cap] 24))
  have HP1 := Lib.hid (Cells.new w 24 #[.int .i64 (f : Nat), .slice A l.length cap])
  have kw := whole_good (fuel := f) (cap := cap) (w.alloc (.cells #[.int .i64 (f : Nat), .slice A l.length cap] 24)) ((hC.keep HB1.out).more HB1.out.size) hok (tabs_later hT HB1.out)
  have KA := Lib.hid (fun W (hW : Below w.heap.size w W) => awake_any W (tabs_later hT hW))
  obtain ⟨⟨hf1, hf2⟩, hlen, hins⟩ := progCheck_ok hok
  have hkk : ∀ x ∈ l, x.k < 2 * signB := fun x hx => by
    obtain ⟨i, hi⟩ := List.mem_iff_getElem?.1 hx
    obtain ⟨_, _, _, _, hc⟩ := hC (by omega)
    exact (hc i x hi).2
  have HLAW := Lib.hid (fun hl : StraightTo l l.length => straight_law (P := Tryd.prog) w hok hkk hl)
  have HONE := Lib.hid (whole_one (P := Tryd.prog) w hok hkk)
  have HC := Lib.hid (hC (by omega))
  have HFF := Lib.hid (show f ≤ 1024 by omega)
  obtain ⟨M1, hM1⟩ : ∃ M1, wholeM f l = M1 := ⟨_, rfl⟩
  rw [hM1] at kw HLAW HONE
  have KW := Lib.hid kw
  have hl1 : 1 ≤ l.length := hlen.1
  have hl2 : l.length ≤ 64 := hlen.2
  have HL12 := Lib.hid (And.intro hl1 hl2)
  clear hC hT kw hok hlen hins hkk hM1 hf1 hf2 hl1 hl2
  go_enter Tryd.func5, Tryd.ntmps5
  go_upto_region 2 with (go_at_call 8; go_loud (refine KW.out.mono ?_); go_loud (rintro _ wb ⟨ch, pi, rfl, hch, hpi, _, hb2⟩); obtain ⟨Ac, cc, rfl⟩ := own_slice hch; obtain ⟨Ap, cp, rfl⟩ := own_slice hpi; have HBb := Lib.hid (grow_to HB1.out hb2); have HPb := Lib.hid (HP1.out.keep hb2); clear hch hpi hb2)
  have HO := Lib.hid (Cells.new wb 35 #[.int .i64 M1.1.rcode, .int .u64 (M1.1.rbits : Nat), .slice Ac (chunksOf M1.2).length cc, .slice Ap (piecesOf M1.2).length cp, .int .i64 (M1.1.done : Nat)])
  have HB2 := Lib.hid (HBb.out.alloc HBb.out.size (.cells #[.int .i64 M1.1.rcode, .int .u64 (M1.1.rbits : Nat), .slice Ac (chunksOf M1.2).length cc, .slice Ap (piecesOf M1.2).length cp, .int .i64 (M1.1.done : Nat)] 35))
  have HP2 := Lib.hid (HPb.out.alloc (.cells #[.int .i64 M1.1.rcode, .int .u64 (M1.1.rbits : Nat), .slice Ac (chunksOf M1.2).length cc, .slice Ap (piecesOf M1.2).length cp, .int .i64 (M1.1.done : Nat)] 35))
  clear HBb HPb KW HB1 HP1
  generalize wb.alloc (.cells #[.int .i64 M1.1.rcode, .int .u64 (M1.1.rbits : Nat), .slice Ac (chunksOf M1.2).length cc, .slice Ap (piecesOf M1.2).length cp, .int .i64 (M1.1.done : Nat)] 35) = w2 at *
  generalize wb.heap.size = Bo at *
  go_upto_region 4 with (go_at_call 9; go_loud (refine (KA.out _ HB2.out).mono ?_); rintro _ w3 ⟨rfl, hb3⟩; have HB3 := Lib.hid (grow_to HB2.out hb3); have HP3 := Lib.hid (HP2.out.keep hb3); have HO3 := Lib.hid (HO.out.keep hb3); clear hb3)
  clear HB2 HP2 HO KA
  obtain ⟨b, off, rfl, hbl, hcl⟩ := HC.out
  have HCL := Lib.hid hcl
  clear hcl HC
  have HLEN : Hid (∀ hl : StraightTo l l.length, StrEnd l f M1.1 M1.2) := Lib.hid HLAW.out
  generalize hln : l.length = len at *
  have HLN := Lib.hid hln
  clear hln HLAW
  obtain ⟨D, hD⟩ : ∃ D, M1.1.done = D := ⟨_, rfl⟩
  obtain ⟨rc, hrc⟩ : ∃ rc, M1.1.rcode = rc := ⟨_, rfl⟩
  obtain ⟨rb, hrb⟩ : ∃ rb : Int, (M1.1.rbits : Int) = rb := ⟨_, rfl⟩
  obtain ⟨cl, hcn⟩ : ∃ cl, (chunksOf M1.2).length = cl := ⟨_, rfl⟩
  obtain ⟨pl, hpn⟩ : ∃ pl, (piecesOf M1.2).length = pl := ⟨_, rfl⟩
  have HFIN : Hid (∀ hl : StraightTo l len, D ≤ l.length ∧ StrFin l f rc D cl pl) := Lib.hid fun hl => by
    obtain ⟨_, h2, h3⟩ := HLEN.out hl
    rw [hD, hrc, hcn, hpn] at h3
    rw [hD] at h2
    exact ⟨h2, h3⟩
  rw [hD] at HONE
  rw [hD, hrc, hrb, hcn, hpn] at HO3
  clear hD hrc hrb hcn hpn HLEN
  have d1 : ¬ (D : Int) < 1 := by have := HONE.out; omega
  have p0 : w3.cell? ⟨w.heap.size, 0, none⟩ = some (.int .i64 (f : Nat)) := HP3.out.cell (j := 0) rfl
  have p1 : w3.cell? ⟨w.heap.size, 1, none⟩ = some (.slice (some ⟨b, off, none⟩) len cap) := HP3.out.cell (j := 1) rfl
  have o3 : w3.cell? ⟨Bo, 4, none⟩ = some (.int .i64 (D : Nat)) := HO3.out.cell (j := 4) rfl
  go_upto_region 8 with fail
  go_quiet (fail)
  go_wp2
  go_loopw [7, 8] (fun x y wr => ∃ g : Nat, g ≤ len ∧ x = .int .i64 (haltTo l g : Nat) ∧ y = .int .i64 (g : Nat) ∧ StraightTo l g ∧ Cells wr w.heap.size 24 #[.int .i64 (f : Nat), .slice (some ⟨b, off, none⟩) len cap] ∧ Cells wr Bo 35 #[.int .i64 rc, .int .u64 rb, .slice Ac cl cc, .slice Ap pl cp, .int .i64 (D : Nat)] ∧ Below w.heap.size w wr) (fun x y _ => len - (intOf y).toNat)
  case atStart => exact ⟨0, Nat.zero_le _, by rw [show haltTo l 0 = l.length from rfl, HLN.out], rfl, (fun i hi => by cases hi), Cells.drewN HP3.out _, Cells.drewN HO3.out _, below_drewN HB3.out _⟩
  case round =>
    clear p0 p1 o3
    obtain ⟨g, hg, rfl, rfl, hst, hP, hO, hB⟩ := hrel
    have HST := Lib.hid hst
    have HPx := Lib.hid hP
    have HOx := Lib.hid hO
    have HBx := Lib.hid hB
    have p1 : wr.cell? ⟨w.heap.size, 1, none⟩ = some (.slice (some ⟨b, off, none⟩) len cap) := hP.cell (j := 1) rfl
    have o4 : wr.cell? ⟨Bo, 4, none⟩ = some (.int .i64 (D : Nat)) := hO.cell (j := 4) rfl
    clear hst hP hO hB HP3 HO3 HB3
    by_cases hlt : g < len
    · obtain ⟨x, hx⟩ : ∃ x, l[g]? = some x := ⟨l[g]'(by rw [HLN.out]; exact hlt), List.getElem?_eq_getElem _⟩
      have hcx := HCL.out g x hx
      obtain ⟨c0, _⟩ := hcx.1.keep HBx.out hbl
      have HOP : Hid (opAt l g = x.op) := Lib.hid (by unfold opAt; rw [List.getD_eq_getElem?_getD, hx]; rfl)
      have i0 : (0 : Int) ≤ g := by omega
      have i1 : (g : Int) < len := by omega
      have hwr : wrap64 ((g : Int) + 1) = (g : Int) + 1 := by have := HL12.out; unfold wrap64; omega
      have HLT := Lib.hid hlt
      clear hcx hx hlt
      generalize x.op = o at *
      by_cases hs : 14 ≤ o ∧ o ≤ 18
      · have h5 : o = 14 ∨ o = 15 ∨ o = 16 ∨ o = 17 ∨ o = 18 := by omega
        clear hs
        rcases h5 with rfl | rfl | rfl | rfl | rfl
        all_goals
          as_aux_lemma =>
            go_wp2
            go_ret
            exact ⟨by first | rfl | simp, HBx.out⟩
      · have HS1 : Hid (StraightTo l (g + 1)) := Lib.hid fun i hi => by
          by_cases e : i = g
          · subst e
            rw [HOP.out]
            omega
          · exact HST.out i (by omega)
        by_cases h24 : o = 24 ∨ o = 23
        · have hh := Lib.hid (show haltTo l (g + 1) = min (haltTo l g) (g + 1) by rw [haltTo, if_pos (by rw [HOP.out]; exact h24)])
          generalize haltTo l g = hg0 at *
          clear hs
          have HMIN : Hid ((min (hg0 : Int) ((g : Int) + 1)) = ((haltTo l (g + 1) : Nat) : Int)) := Lib.hid (by rw [hh.out]; omega)
          rcases h24 with rfl | rfl
          all_goals
            as_aux_lemma =>
              go_wp2
              refine ⟨⟨g + 1, HLT.out, by first | (rw [HMIN.out]; done) | rw [HMIN.out], by go_num, HS1.out, HPx.out, HOx.out, HBx.out⟩, meas_dec HLT.out HL12.out.2⟩
        · have hh := Lib.hid (show haltTo l (g + 1) = haltTo l g by rw [haltTo, if_neg (by rw [HOP.out]; exact h24)])
          have a1 : (o == 14) = false := by rw [beq_eq_false_iff_ne]; omega
          have a2 : (o == 15) = false := by rw [beq_eq_false_iff_ne]; omega
          have a3 : (o == 16) = false := by rw [beq_eq_false_iff_ne]; omega
          have a4 : (o == 17) = false := by rw [beq_eq_false_iff_ne]; omega
          have a5 : (o == 18) = false := by rw [beq_eq_false_iff_ne]; omega
          have a6 : (o == 24) = false := by rw [beq_eq_false_iff_ne]; omega
          have a7 : (o == 23) = false := by rw [beq_eq_false_iff_ne]; omega
          clear hs h24
          generalize haltTo l g = hg0 at *
          as_aux_lemma =>
            go_wp2
            refine ⟨⟨g + 1, HLT.out, by rw [hh.out], by go_num, HS1.out, HPx.out, HOx.out, HBx.out⟩, meas_dec HLT.out HL12.out.2⟩
    · obtain rfl : g = len := by omega
      have i1 : ¬ (g : Int) < g := by omega
      obtain ⟨hDl, hfin⟩ := HFIN.out HST.out
      rw [HLN.out] at hDl
      have HFI := Lib.hid hfin
      have HDL := Lib.hid hDl
      have i2 : ¬ (g : Int) < (D : Int) := by omega
      clear hfin hDl HFIN hlt hg
      go_wp2
      go_loopw [5, 6, 9] (fun x y z wr => ∃ k : Nat, k ≤ D ∧ x = .int .i64 (cntTo l 21 k : Nat) ∧ y = .int .i64 (cntTo l 22 k : Nat) ∧ z = .int .i64 (k : Nat) ∧ Cells wr w.heap.size 24 #[.int .i64 (f : Nat), .slice (some ⟨b, off, none⟩) g cap] ∧ Cells wr Bo 35 #[.int .i64 rc, .int .u64 rb, .slice Ac cl cc, .slice Ap pl cp, .int .i64 (D : Nat)] ∧ Below w.heap.size w wr) (fun x y z _ => D - (intOf z).toNat)
      case atStart => exact ⟨0, Nat.zero_le _, rfl, rfl, rfl, HPx.out, HOx.out, HBx.out⟩
      case round =>
        clear p1 o4 HPx HOx HBx
        obtain ⟨k, hk, rfl, rfl, rfl, hP, hO, hB⟩ := hrel
        have HPx := Lib.hid hP
        have HOx := Lib.hid hO
        have HBx := Lib.hid hB
        have p0 : wr.cell? ⟨w.heap.size, 0, none⟩ = some (.int .i64 (f : Nat)) := hP.cell (j := 0) rfl
        have p1 : wr.cell? ⟨w.heap.size, 1, none⟩ = some (.slice (some ⟨b, off, none⟩) g cap) := hP.cell (j := 1) rfl
        have o0 : wr.cell? ⟨Bo, 0, none⟩ = some (.int .i64 rc) := hO.cell (j := 0) rfl
        have o2 : wr.cell? ⟨Bo, 2, none⟩ = some (.slice Ac cl cc) := hO.cell (j := 2) rfl
        have o3 : wr.cell? ⟨Bo, 3, none⟩ = some (.slice Ap pl cp) := hO.cell (j := 3) rfl
        have o4 : wr.cell? ⟨Bo, 4, none⟩ = some (.int .i64 (D : Nat)) := hO.cell (j := 4) rfl
        clear hP hO hB
        by_cases hlt : k < D
        · obtain ⟨x, hx⟩ : ∃ x, l[k]? = some x := ⟨l[k]'(by rw [HLN.out]; have := HDL.out; omega), List.getElem?_eq_getElem _⟩
          have hcx := HCL.out k x hx
          obtain ⟨c0, _⟩ := hcx.1.keep HBx.out hbl
          have HOP : Hid (opAt l k = x.op) := Lib.hid (by unfold opAt; rw [List.getD_eq_getElem?_getD, hx]; rfl)
          have i0 : (0 : Int) ≤ k := by omega
          have i3 : (k : Int) < D := by omega
          have i4 : (k : Int) < g := by have := HDL.out; omega
          have hwr : wrap64 ((k : Int) + 1) = (k : Int) + 1 := by have := HL12.out; unfold wrap64; omega
          have HLT := Lib.hid hlt
          have HQ1 := Lib.hid (show cntTo l 21 (k + 1) = cntTo l 21 k + if x.op = 21 then 1 else 0 by rw [cntTo, HOP.out])
          have HQ2 := Lib.hid (show cntTo l 22 (k + 1) = cntTo l 22 k + if x.op = 22 then 1 else 0 by rw [cntTo, HOP.out])
          have hq1 : wrap64 ((cntTo l 21 k : Int) + 1) = (cntTo l 21 k : Int) + 1 := by have := HL12.out; have := cnt_le l 21 k; unfold wrap64; omega
          have hq2 : wrap64 ((cntTo l 22 k : Int) + 1) = (cntTo l 22 k : Int) + 1 := by have := HL12.out; have := cnt_le l 22 k; unfold wrap64; omega
          clear hcx hx hlt HOP
          generalize x.op = o at *
          generalize cntTo l 21 k = n1 at *
          generalize cntTo l 22 k = n2 at *
          by_cases h1 : o = 21
          · subst h1
            as_aux_lemma =>
              go_wp2
              refine ⟨⟨k + 1, HLT.out, by rw [HQ1.out]; go_num, by rw [HQ2.out]; rfl, by go_num, HPx.out, HOx.out, HBx.out⟩, meas_dec HLT.out (Nat.le_trans HDL.out HL12.out.2)⟩
          by_cases h2 : o = 22
          · subst h2
            clear h1
            as_aux_lemma =>
              go_wp2
              refine ⟨⟨k + 1, HLT.out, by rw [HQ1.out]; rfl, by rw [HQ2.out]; go_num, by go_num, HPx.out, HOx.out, HBx.out⟩, meas_dec HLT.out (Nat.le_trans HDL.out HL12.out.2)⟩
          · have a1 : (o == 21) = false := by rw [beq_eq_false_iff_ne]; exact h1
            have a2 : (o == 22) = false := by rw [beq_eq_false_iff_ne]; exact h2
            have HN1 := Lib.hid h1
            have HN2 := Lib.hid h2
            clear h1 h2
            as_aux_lemma =>
              go_wp2
              refine ⟨⟨k + 1, HLT.out, by rw [HQ1.out, if_neg HN1.out]; rfl, by rw [HQ2.out, if_neg HN2.out]; rfl, by go_num, HPx.out, HOx.out, HBx.out⟩, meas_dec HLT.out (Nat.le_trans HDL.out HL12.out.2)⟩
        · obtain rfl : k = D := by omega
          have i3 : ¬ (k : Int) < k := by omega
          have hfi := HFI.out
          have hone := HONE.out
          have hopd : ∃ x, l[k - 1]? = some x ∧ opAt l (k - 1) = x.op := ⟨l[k - 1]'(by rw [HLN.out]; have := HDL.out; omega), List.getElem?_eq_getElem _, by unfold opAt; rw [List.getD_eq_getElem?_getD, List.getElem?_eq_getElem]; rfl⟩
          unfold StrFin at hfi
          rw [HLN.out] at hfi
          clear HFI hlt hk
          generalize haltTo l g = hn at *
          rcases hfi with ⟨e0, rfl, e2, rfl, rfl⟩ | ⟨rfl, rfl, e2, rfl, rfl⟩ | ⟨e0, e1, e2, e3⟩ | ⟨rfl, e1, rfl⟩ | ⟨rfl, e1, rfl⟩
          · generalize cntTo l 21 k = n1 at *
            generalize cntTo l 22 k = n2 at *
            have e4 : (k : Int) ≤ (f : Int) := by omega
            clear hopd hone e2
            rcases e0 with rfl | rfl
            all_goals
              as_aux_lemma =>
                go_wp2
                go_ret
                exact ⟨by first | rfl | simp, HBx.out⟩
          · generalize cntTo l 21 k = n1 at *
            generalize cntTo l 22 k = n2 at *
            have e4 : (k : Int) < (hn : Int) := by omega
            clear hopd hone e2
            as_aux_lemma =>
              go_wp2
              go_ret
              exact ⟨by first | rfl | simp, HBx.out⟩
          · generalize cntTo l 21 k = n1 at *
            generalize cntTo l 22 k = n2 at *
            obtain ⟨x, hx, ho⟩ := hopd
            have hcx := HCL.out (k - 1) x hx
            obtain ⟨c0, _⟩ := hcx.1.keep HBx.out hbl
            rw [ho] at e3
            obtain ⟨d, hd⟩ : ∃ d : Nat, k - 1 = d := ⟨_, rfl⟩
            have e4 : (k : Int) ≤ (hn : Int) := by omega
            have e5 : (k : Int) ≤ (f : Int) := by omega
            have e6 : wrap64 ((k : Int) - 1) = (d : Int) := by have := HL12.out; have := HDL.out; unfold wrap64; omega
            have e7 : (0 : Int) ≤ (d : Int) := by omega
            have e8 : (d : Int) < (g : Int) := by have := HDL.out; omega
            rw [hd] at c0
            clear hcx hx ho hone e1 e2 hd
            generalize x.op = o at *
            rcases e0 with rfl | rfl
            all_goals
              rcases e3 with rfl | rfl
              all_goals
                as_aux_lemma =>
                  go_wp2
                  go_ret
                  exact ⟨by first | rfl | simp, HBx.out⟩
          · generalize cntTo l 21 k = n1 at *
            generalize cntTo l 22 k = n2 at *
            have e4 : (k : Int) ≤ (hn : Int) := by omega
            clear hopd hone e1
            as_aux_lemma =>
              go_wp2
              go_ret
              exact ⟨by first | rfl | simp, HBx.out⟩
          · generalize cntTo l 21 k = n1 at *
            generalize cntTo l 22 k = n2 at *
            have e4 : (k : Int) ≤ (hn : Int) := by omega
            clear hopd hone e1
            as_aux_lemma =>
              go_wp2
              go_ret
              exact ⟨by first | rfl | simp, HBx.out⟩
theorem walk {fuel : Int} {A : Option Addr} {l : List Ins} {cap : Nat} (w : World) (hC : CodeIn w w.heap.size A l) (hT : ∀ wz, Below w.heap.size w wz → TabsAt wz) :
    Calls Tryd.prog 5 #[.agg #[.int .i64 fuel, .slice A l.length cap]] w fun e w' => e = .returned (.bool true) ∧ Below w.heap.size w w' := by
  by_cases hne : (progCheck fuel l).1 = 0
  · obtain ⟨f, rfl⟩ := Int.eq_ofNat_of_zero_le (show 0 ≤ fuel by have := (progCheck_ok hne).1; omega)
    exact walk_good w hC hT hne
  · exact walk_bad w hC hT hne

-- LIFT
set_option maxRecDepth 100000 in
theorem contract (H : Type) (enc : TypeId × Value → H) (W : World) (base : Nat) (args : Array Value) (ds gs : List (DataW H)) (before : List MemPlace)
    (hval : ∀ (j : Nat) t v, Tryd.f5.params[j]? = some t → args[j]? = some v → Value.okWide Tryd.prog W .any base t v)
    (hW : DataW.Whole enc Tryd.prog Tryd.f5.params.toList Rows.interpStraightSpec.vars false W args.toList ds gs before) (hL : laidMetH Tryd.prog Rows.interpStraightRow.laid W) :
    Calls Tryd.prog 5 args W fun e W' => ∃ v, e = .returned v ∧ Rows.interpStraightSpec.post enc Tryd.prog Tryd.f5 false true false false W args v W' := by
  have hT0 := tabs_of (show laidMetH Tryd.prog laidOf W from hL)
  have hT : ∀ wz, Below W.heap.size W wz → TabsAt wz := fun wz hz => tabs_keep hz hT0
  clear hL
  have hts : Tryd.f5.params.toList.all (fun t => Tryd.prog.readableRec t && decide (t < Tryd.prog.types.size)) = true := by kernel_rfl
  have hW' := hW
  obtain ⟨p, q, hA0, hV, rfl, hfz, hnd⟩ := hW
  have hA : DataW.TrodAll enc Tryd.prog W 0 (fun _ => true) true Tryd.f5.params.toList args.toList ds p := hA0
  rw [Tryd.params5] at hA hval
  obtain ⟨v0, vs0, d0, ds0, p0, q0, hargs, rfl, rfl, h0, r0⟩ := trodAll_cons hA
  obtain ⟨rfl, rfl, rfl⟩ := trodAll_nil r0
  obtain rfl : args = #[v0] := by cases args; simp_all
  obtain ⟨rfl, rfl⟩ := trodVars_none hV
  have hfn : Rows.interpStraightSpec.fn H ([d0] ++ []) = { results := [.lit (.bool true)], args := [d0] } := rfl
  have hfin := fun W' (hbel : Below W.heap.size W W') => law_post (f := Tryd.f5) (s := Rows.interpStraightSpec) 4 Tryd.laid hts rfl Tryd.underlying4 rfl hfn hW' hbel
  clear hA0 hts hfn
  obtain ⟨fu0, A0, l0, c0, rfl, hC0, hf0, hg0⟩ := open_prog (hval 0 24 v0 rfl rfl) h0
  exact (walk W hC0 hT).mono fun e W' ⟨he, hg⟩ => ⟨_, he, hfin W' hg⟩

theorem reads (os : Os) {H : Type} (enc : TypeId × Value → H) : ∃ places, DataW.whole enc Tryd.prog ((laidWorld os).forCall (fun _ _ => 0) ⟨#[], #[.agg #[.int .i64 0, .slice none 0 0]], []⟩).memory Tryd.f5.params.toList Rows.interpStraightSpec.vars false #[.agg #[.int .i64 0, .slice none 0 0]].toList 8 = some ([.agg [.lit (.int .i64 0), .nil]], [], places) :=
  ⟨[], by kernel_rfl⟩
theorem laid_met (os : Os) : laidMet Tryd.prog Rows.interpStraightRow.laid ((laidWorld os).forCall (fun _ _ => 0) ⟨#[], #[.agg #[.int .i64 0, .slice none 0 0]], []⟩).memory := laid_here os #[.agg #[.int .i64 0, .slice none 0 0]]

set_option maxRecDepth 100000 in
theorem lifted (os : Os) (started : os.Started) (H : Type) (enc : TypeId × Value → H) (F : Stop.Interp) :
    ReturnsInHanded {} Tryd.checked os 5 .any ((OpenSpec.ofChange Rows.interpStraightSpec).preRow enc Tryd.prog Tryd.f5 Rows.interpStraightRow.domain false Rows.interpStraightRow.laid) (((OpenSpec.ofChange Rows.interpStraightSpec).at F).post enc Tryd.prog Tryd.f5 false true false false) := by
  obtain ⟨places, hx⟩ := reads os enc
  refine returnsInHanded_of_row (C := Tryd.checked) (s := OpenSpec.ofChange Rows.interpStraightSpec) Tryd.own started (by kernel_rfl) Tryd.func5
    (witness_row_atRef (enc := enc) (C := Tryd.checked) false (laidWorld os) #[.agg #[.int .i64 0, .slice none 0 0]] rfl (by kernel_rfl) (by kernel_rfl) (by kernel_rfl)
      (OpenSpec.preRow_of_cond 8 hx (by kernel_rfl) (fun k hk => by cases hk) (by kernel_rfl) (laid_met os))) ?_
  intro W base args ds gs before hval hW _ _ _ hL _ _
  exact contract H enc W base args ds gs before hval hW hL

theorem said : Rows.InterpStraightSaid :=
  OpenClaim.holds_of_cond 5 Tryd.f5 rfl rfl rfl rfl rfl rfl rfl ⟨rfl, rfl, rfl, rfl, rfl⟩ rfl rfl rfl rfl rfl (by kernel_rfl) Tryd.func5 (by kernel_rfl)
    (of_decide_eq_true (by kernel_rfl)) (by unfold Func.isWrapper; first | (rw [if_pos (by decide +kernel)]; kernel_rfl) | (rw [if_neg (by decide +kernel)]; exact ⟨rfl, rfl⟩))
    (fun os started H enc _ F => by rw [OpenClaim.pre_eq_preRow]; exact lifted os started H enc F)

theorem plain (f : FuncId) (fn : Func) (hf : Tryd.pinned.checked.prog.funcNamed "gaffer/gafferlaw06.InterpStraight" = some f) (hfn : Tryd.pinned.checked.prog.funcs[f]? = some fn) :
    true = Tryd.pinned.checked.prog.looks [] ∧ ∀ (j : Nat) t, fn.params[j]? = some t → Tryd.pinned.checked.prog.wantsStandIn t = false := by
  obtain rfl : f = 5 := Option.some.inj ((show Tryd.prog.funcNamed "gaffer/gafferlaw06.InterpStraight" = some 5 by kernel_rfl).symm.trans hf) |>.symm
  obtain rfl : fn = Tryd.f5 := (Option.some.inj (Tryd.func5.symm.trans hfn)).symm
  refine ⟨by kernel_rfl, fun j t ht => ?_⟩
  rw [Tryd.params5] at ht
  have hm := Array.mem_of_getElem? ht
  simp only [List.mem_toArray, List.mem_cons, List.not_mem_nil, or_false] at hm
  rcases hm with rfl
  · exact (show Tryd.prog.wantsStandIn 24 = false by kernel_rfl)

theorem proved : Rows.InterpStraightCardSaid :=
  Claim7.holds_tied_plain_at .later [] _ _ _ _ said (fun _ h => by cases h) (by kernel_rfl) (fun _ h => by cases h) interpStraight_row_tie rfl ⟨rfl, rfl⟩ (by kernel_rfl) rfl plain (by kernel_rfl)

end Go.Proofs.YtjloiclbknfomaaDoor.interpStraight
