/- prog.Pack (contract). -/
import Derived.Test.YtdkencepmdfacaaGreatDoorGr5
import Derived.Deep.QuietTactic
import Derived.Deep.DeepCutAuto
import Derived.Deep.RegionWith
import Derived.BigQuiet
set_option maxRecDepth 100000
namespace Go.Proofs.YtdkencepmdfacaaGreatDoor
open Go.RowKit Ieee

set_option maxHeartbeats 4000000 in
set_option maxRecDepth 100000 in
theorem pack_any (fuel : Int) (A : Option Addr) (l : List Ins) (cap : Nat) (w : World) (hC : CodeIn w w.heap.size A l) (hk : ∀ x ∈ l, x.k < 2 * signB) :
    Calls Tryz.prog 83 #[.agg #[.int .i64 fuel, .slice A l.length cap]] w fun e w' => e = .returned (.tuple #[.string (if (progCheck fuel l).1 = 0 then str (progB fuel.toNat l) else ⟨#[]⟩), .int .i64 (progCheck fuel l).1]) ∧ Below w.heap.size w w' := by
  have HX := Lib.hid (Cells.new w 71 #[.int .i64 fuel, .slice A l.length cap])
  have HB := Lib.hid ((Below.refl w.heap.size w).alloc (Nat.le_refl _) (.cells #[.int .i64 fuel, .slice A l.length cap] 71))
  have hck := check_any fuel A l cap (w.alloc (.cells #[.int .i64 fuel, .slice A l.length cap] 71)) ((hC.keep HB.out).more HB.out.size)
  by_cases h0 : (progCheck fuel l).1 = 0
  case neg =>
    rw [if_neg h0]
    have t1 : ((progCheck fuel l).1 == 0) = false := by rw [beq_eq_false_iff_ne]; exact h0
    have t2 : ((progCheck fuel l).1 != 0) = true := by simp [bne, t1]
    have HCK := Lib.hid hck
    clear hck h0
    generalize (progCheck fuel l).1 = er at *
    generalize (progCheck fuel l).2 = at_ at *
    generalize l.length = len at *
    go_enter Tryz.func83, Tryz.ntmps83
    go_wp2_with fail
    refine HCK.out.mono ?_
    rintro _ w1 ⟨rfl, hb1⟩
    have HB1 := Lib.hid (grow_to HB.out hb1)
    clear hb1
    go_wp2
    go_ret2
    exact ⟨rfl, HB1.out⟩
  rw [if_pos h0, h0]
  rw [h0] at hck
  obtain ⟨hf, hl1, hl2⟩ := prog_range h0
  obtain ⟨fn, rfl⟩ := Int.eq_ofNat_of_zero_le (show 0 ≤ fuel by omega)
  have HFULL := Lib.hid (prog_full h0 hk)
  have HLE := Lib.hid (headB_le h0 hk)
  have HCC := Lib.hid hC
  have HCK := Lib.hid hck
  clear hck h0 hk hC
  rw [← headB_all l.length (Nat.le_refl _)]
  have HS0 := Lib.hid (headB_zero fn l)
  rw [Int.toNat_natCast] at HS0
  obtain ⟨HD, hHD⟩ : ∃ HD, headB fn l = HD := ⟨_, rfl⟩
  have HSU : Hid (∀ (g : Nat) (x : Ins), l[g]? = some x → HD (g + 1) = HD g ++ (vb x.op.toNat ++ (x.regB ++ x.tailB))) := Lib.hid fun g x hx => hHD ▸ headB_succ hx
  rw [hHD] at HS0 HLE ⊢
  clear hHD
  generalize (progCheck fn l).2 = at_ at *
  generalize hlen : l.length = len at *
  have HLEN := Lib.hid hlen
  clear hlen
  have k1 := fun W => Num_any fn W (by omega)
  have k2 := fun W => Num_any len W (by omega)
  have s1 : (str (vb fn)).size ≤ 10 := by rw [str_size]; exact vb_len10 _ (by omega)
  have s2 : (str (vb len)).size ≤ 10 := by rw [str_size]; exact vb_len10 _ (by omega)
  have HS1 : Hid (str (HD 0) = str (vb fn) ++ str (vb len)) := Lib.hid (by rw [HS0.out, str_app])
  clear HS0
  have u1 : IntKind.u64.wrap (fn : Int) = fn := by rw [IntKind.wrap_u64]; omega
  have u2 : IntKind.u64.wrap (len : Int) = len := by rw [IntKind.wrap_u64]; omega
  generalize str (vb fn) = S1 at *
  generalize str (vb len) = S2 at *
  go_enter Tryz.func83, Tryz.ntmps83
  go_upto_region 4 with (go_at_call 66; go_loud (refine HCK.out.mono ?_); rintro _ w1 ⟨rfl, hb1⟩; have HB1 := Lib.hid (grow_to HB.out hb1); have HX1 := Lib.hid (HX.out.keep hb1); clear hb1)
  clear HB HX HCK
  have q0 : ∀ y : BW w1, y.val.cell? ⟨w.heap.size, 0, none⟩ = some (.int .i64 (fn : Int)) := fun y => y.cell (HX1.out.cell (j := 0) rfl)
  have q1 : ∀ y : BW w1, y.val.cell? ⟨w.heap.size, 1, none⟩ = some (.slice A len cap) := fun y => y.cell (HX1.out.cell (j := 1) rfl)
  have s12 : ¬ 9223372036854775807 < S1.size + S2.size := by omega
  refine wp_region_bw (w := w1) (by kernel_rfl) (by kernel_rfl) ?_
  repeat (refine wpQuiet_step (fun K hK => ?_); go_simp; first | (refine hK _ ?_; clear hK K) | (apply Exists.intro; refine ⟨fun _ => ?_, hK _ ?_⟩; (go_at_call 131; first | (with_reducible exact Calls.quiet_bw (k1 _)) | (with_reducible exact Calls.quiet_bw (k2 _))); clear hK K))
  refine wpQuiet_nil ?_
  intro yq
  have HX2 := Lib.hid (HX1.out.keep yq.below)
  have HB2 := Lib.hid (grow_to HB1.out yq.below)
  generalize yq.val = w2 at *
  have p1 : w2.cell? ⟨w.heap.size, 1, none⟩ = some (.slice A len cap) := HX2.out.cell (j := 1) rfl
  clear q0 q1 k1 k2 HB1 HX1 yq w1 u1 u2
  rw [← HS1.out]
  clear HS1 s1 s2 s12
  go_wp2
  go_loopw [33, 6] (fun iv bv wr => ∃ g : Nat, g ≤ len ∧ iv = .int .i64 (g : Int) ∧ bv = .string (str (HD g)) ∧ Below w.heap.size w wr) (fun iv _ _ => len - (intOf iv).toNat)
  case atStart => exact ⟨0, Nat.zero_le _, rfl, rfl, HB2.out⟩
  case round =>
    obtain ⟨g, hg, rfl, rfl, hB⟩ := hrel
    have HBR := Lib.hid hB
    clear hB HX2 HB2 p1
    by_cases hlt : g < len
    · obtain ⟨x, hx⟩ : ∃ x, l[g]? = some x := ⟨l[g]'(by rw [HLEN.out]; exact hlt), List.getElem?_eq_getElem _⟩
      have HF := Lib.hid (HFULL.out x (List.mem_of_getElem? hx))
      obtain ⟨b, off, rfl, hb, hc⟩ := HCC.out (by rw [HLEN.out]; omega)
      obtain ⟨c0, c1, c2, c3, c4, c5⟩ := ((hc g x hx).1.keep HBR.out hb)
      have HSUX := Lib.hid (HSU.out g x hx)
      have HL1 := Lib.hid (HLE.out g)
      have HL2 := Lib.hid (HLE.out (g + 1))
      clear hc hx HCC HSU HFULL HLEN HLE
      have i0 : (0 : Int) ≤ g := by omega
      have i1 : (g : Int) < len := by omega
      obtain ⟨o, r, n, v, e0, e1, e2, e3, e4, o1, o2, er, r3, n64, hv, hk, eB, eT⟩ := ins_told HF.out.1 HF.out.2 hl2
      have HSU : Hid (str (HD (g + 1)) = str (HD g) ++ str (vb o) ++ str (regVto v r) ++ (if opN (o : Int) = true then str (vb n) else str []) ++ (if opK (o : Int) = true then str (bb x.k) else str [])) := Lib.hid (by
        rw [HSUX.out, eB, eT, e0, Int.toNat_natCast, str_app, str_app, str_app, str_app, ByteArray.append_assoc, ByteArray.append_assoc, ByteArray.append_assoc]
        split <;> split <;> rfl)
      rw [e0] at c0
      rw [e1] at c1
      rw [e2] at c2
      rw [e3] at c3
      rw [e4] at c4
      clear HSUX e0 e1 e2 e3 e4 eB eT HF
      generalize x.k = k at *
      clear x
      have HFC : Hid (formCells o = [txt (opWord o), .int .i64 (r : Nat), .bool (opN o), .bool (opK o)]) := Lib.hid (by unfold formCells; rw [er])
      clear er
      generalize opN (o : Int) = bn at *
      generalize opK (o : Int) = bk at *
      have ko := fun W => Num_any o W (by omega)
      have kn := fun W => Num_any n W (by omega)
      have kk := fun W => Bits_any k W hk
      have kv := fun i W => Num_any (v i) W (by have := hv i; omega)
      have HVS := Lib.hid fun i => (show (str (vb (v i))).size ≤ 10 from by rw [str_size]; exact vb_len10 _ (by have := hv i; omega))
      have HRS := Lib.hid fun i => (show (str (regVto v i)).size ≤ i from by rw [str_size]; exact regVto_le hv i)
      have so : (str (vb o)).size ≤ 10 := by rw [str_size]; exact vb_len10 _ (by omega)
      have sn : (str (vb n)).size ≤ 10 := by rw [str_size]; exact vb_len10 _ (by omega)
      have sk : (str (bb k)).size ≤ 8 := by rw [str_size, bb_len]; exact Nat.le_refl _
      have sg : (str (HD g)).size ≤ 800 := by rw [str_size]; exact HL1.out
      have HV1 := Lib.hid fun i => wrapU (n := v i) (by have := hv i; omega)
      have uo := wrapU (n := o) (by omega)
      have un := wrapU (n := n) (by omega)
      have uk := wrapU (n := k) (by omega)
      have HR0 : Hid (str (regVto v 0) = ⟨#[]⟩) := Lib.hid rfl
      have HR1 : Hid (∀ i, str (regVto v (i + 1)) = str (regVto v i) ++ str (vb (v i))) := Lib.hid fun i => by rw [regVto_succ, str_app]
      clear hk hv HL1 HL2
      generalize str (vb o) = So at *
      generalize str (vb n) = Sn at *
      generalize str (bb k) = Sk at *
      obtain ⟨sv, hsv⟩ : ∃ sv : Nat → ByteArray, (fun i => str (vb (v i))) = sv := ⟨_, rfl⟩
      obtain ⟨sr, hsr⟩ : ∃ sr : Nat → ByteArray, (fun i => str (regVto v i)) = sr := ⟨_, rfl⟩
      replace HVS : Hid (∀ i, (sv i).size ≤ 10) := Lib.hid (hsv ▸ HVS.out)
      replace HRS : Hid (∀ i, (sr i).size ≤ i) := Lib.hid (hsr ▸ HRS.out)
      replace HR0 : Hid (sr 0 = ⟨#[]⟩) := Lib.hid (hsr ▸ HR0.out)
      replace HR1 : Hid (∀ i, sr (i + 1) = sr i ++ sv i) := Lib.hid (by rw [← hsr, ← hsv]; exact HR1.out)
      replace HSU : Hid (str (HD (g + 1)) = str (HD g) ++ So ++ sr r ++ (if bn = true then Sn else str []) ++ (if bk = true then Sk else str [])) := Lib.hid (hsr ▸ HSU.out)
      replace kv : ∀ i W, Calls Tryz.prog 131 #[.int .u64 (v i : Nat)] W fun e w' => e = .returned (.string (sv i)) ∧ Below W.heap.size W w' := hsv ▸ kv
      have KV := Lib.hid kv
      have KN := Lib.hid kn
      have KK := Lib.hid kk
      clear hsv hsr kv kn kk
      generalize str (HD g) = Sg at *
      go_upto_region 8 with fail
      have HI3 := Lib.hid (Cells.new wr 102 #[.int .i64 (o : Nat), .int .i64 (v 0 : Nat), .int .i64 (v 1 : Nat), .int .i64 (v 2 : Nat), .int .i64 (n : Nat), .int .u64 (k : Nat)])
      have HB3 := Lib.hid (HBR.out.alloc HBR.out.size (.cells #[.int .i64 (o : Nat), .int .i64 (v 0 : Nat), .int .i64 (v 1 : Nat), .int .i64 (v 2 : Nat), .int .i64 (n : Nat), .int .u64 (k : Nat)] 102))
      clear HBR c0 c1 c2 c3 c4 c5
      generalize wr.alloc (.cells #[.int .i64 (o : Nat), .int .i64 (v 0 : Nat), .int .i64 (v 1 : Nat), .int .i64 (v 2 : Nat), .int .i64 (n : Nat), .int .u64 (k : Nat)] 102) = w3 at *
      generalize wr.heap.size = Gx at *
      clear wr
      go_cut [9] (fun s9 wx => ∃ b5, s9 = .pointer (some ⟨b5, 0, none⟩) ∧ w3.heap.size ≤ b5 ∧ Cells wx b5 104 (formCells o).toArray ∧ Below w3.heap.size w3 wx)
      case first =>
        clear HSU HVS HRS HR0 HR1 HV1 KV KN KK ko uo un uk so sn sk sg
        have hi0 : (0 : Int) ≤ o := by omega
        have hi1 : (o : Int) < 25 := by omega
        have y0 : w3.cell? ⟨Gx, 0, none⟩ = some (.int .i64 (o : Int)) := HI3.out.cell (j := 0) rfl
        have y0d : w3.drew.cell? ⟨Gx, 0, none⟩ = some (.int .i64 (o : Int)) := y0
        have y0a : ∀ Z, (w3.alloc Z).cell? ⟨Gx, 0, none⟩ = some (.int .i64 (o : Int)) := fun Z => (HI3.out.alloc Z).cell (j := 0) rfl
        have y0ad : ∀ Z, (w3.alloc Z).drew.cell? ⟨Gx, 0, none⟩ = some (.int .i64 (o : Int)) := y0a
        refine wp_region_held_drew (S := fun w' => w'.cell? ⟨Gx, 0, none⟩ = some (.int .i64 (o : Int))) (by kernel_rfl) y0 (fun hS => ?_)
        refine wpAnyH_take (i := 1) (v := ?_) rfl (by kernel_rfl) (by kernel_rfl) (by kernel_rfl) (fun _ _ _ h => h) (Or.inl ⟨by rfl, ?_⟩) hS ?_
        rotate_left
        · (intro wx hSx; (try dsimp only at hSx); go_simp; (try with_reducible rfl))
        simp only [List.getElem_toArray, List.getElem_cons_succ, List.getElem_cons_zero, Act.put, List.setIfInBounds_toArray, List.set_cons_zero, List.set_cons_succ]
        refine wpAnyH_take (i := 2) (v := ?_) rfl (by kernel_rfl) (by kernel_rfl) (by kernel_rfl) (fun _ _ _ h => h) (Or.inl ⟨by rfl, ?_⟩) hS ?_
        rotate_left
        · (intro wx hSx; (try dsimp only at hSx); go_simp; (try with_reducible rfl))
        simp only [List.getElem_toArray, List.getElem_cons_succ, List.getElem_cons_zero, Act.put, List.setIfInBounds_toArray, List.set_cons_zero, List.set_cons_succ]
        refine wpAnyH_ready (rs := [0, 5]) (by kernel_rfl) (by simp) ?_
        refine AllReadyH.cons rfl (fun K hK => ?_) (AllReadyH.cons rfl (fun K hK => ?_) AllReadyH.nil)
        · go_simp
          go_at_call 63
          refine (forms_in _).mono ?_
          rintro _ wq ⟨bq, rfl, hlq, hFq, hBq⟩
          have HXq := Lib.hid (show Cells wq Gx 102 #[.int .i64 (o : Nat), .int .i64 (v 0 : Nat), .int .i64 (v 1 : Nat), .int .i64 (v 2 : Nat), .int .i64 (n : Nat), .int .u64 (k : Nat)] from by first | exact Cells.keep HI3.out.drew hBq | exact Cells.keep (HI3.out.alloc _).drew hBq | exact Cells.keep (HI3.out.drew.alloc _).drew hBq)
          have xq : wq.cell? ⟨Gx, 0, none⟩ = some (.int .i64 (o : Int)) := HXq.out.cell (j := 0) rfl
          have xqa : ∀ Z, (wq.alloc Z).cell? ⟨Gx, 0, none⟩ = some (.int .i64 (o : Int)) := fun Z => (HXq.out.alloc Z).cell (j := 0) rfl
          have xqs : ∀ e1 e2 e3 e4, ((((wq.setCell ⟨w3.heap.size, 0, none⟩ e1).setCell ⟨w3.heap.size, 1, none⟩ e2).setCell ⟨w3.heap.size, 2, none⟩ e3).setCell ⟨w3.heap.size, 3, none⟩ e4).cell? ⟨Gx, 0, none⟩ = some (.int .i64 (o : Int)) := fun e1 e2 e3 e4 => ((((HXq.out.far (a := ⟨w3.heap.size, 0, none⟩) (Nat.ne_of_lt HI3.out.lt) e1).far (a := ⟨w3.heap.size, 1, none⟩) (Nat.ne_of_lt HI3.out.lt) e2).far (a := ⟨w3.heap.size, 2, none⟩) (Nat.ne_of_lt HI3.out.lt) e3).far (a := ⟨w3.heap.size, 3, none⟩) (Nat.ne_of_lt HI3.out.lt) e4).cell (j := 0) rfl
          obtain ⟨q0, q1, q2, q3⟩ := forms_at hFq o2
          have r0 := fun Z => (forms_at (hFq.alloc Z) o2).1
          have r1 := fun Z => (forms_at (hFq.alloc Z) o2).2.1
          have r2 := fun Z => (forms_at (hFq.alloc Z) o2).2.2.1
          have r3 := fun Z => (forms_at (hFq.alloc Z) o2).2.2.2
          try (have HZq := Lib.hid (show Cells wq w3.heap.size 104 #[.string ⟨#[]⟩, .int .i64 0, .bool false, .bool false] from Cells.keep (Cells.new w3 _ _).drew hBq); have z0 := HZq.out.cell (j := 0) rfl; have z1 := HZq.out.cell (j := 1) rfl; have z2 := HZq.out.cell (j := 2) rfl; have z3 := HZq.out.cell (j := 3) rfl; have f0 := HZq.out.fz 0; have f1 := HZq.out.fz 1; have f2 := HZq.out.fz 2; have f3 := HZq.out.fz 3)
          have HBw := Lib.hid (show Below w3.heap.size w3 wq from by first | exact grow_to (Below.refl _ w3).drew hBq | exact grow_to ((Below.refl _ w3).alloc (Nat.le_refl _) _).drew hBq)
          have HFq := Lib.hid hFq
          have HBq := Lib.hid hBq
          have HLq := Lib.hid hlq
          clear hFq hBq hlq
          refine hK.out _ _ (by first | with_reducible exact y0 | with_reducible exact y0d | with_reducible exact y0a _ | with_reducible exact y0ad _ | with_reducible exact xq | with_reducible exact xqa _ | with_reducible exact xqs _ _ _ _) (fun hS => ?_)
          clear hK K
          try simp only [Act.put, List.setIfInBounds_toArray, List.set_cons_zero, List.set_cons_succ]
          refine wpAnyH_take (i := 3) (v := ?_) rfl (by kernel_rfl) (by kernel_rfl) (by kernel_rfl) (fun _ _ _ h => h) (Or.inl ⟨by rfl, ?_⟩) hS ?_
          rotate_left
          · (intro wx hSx; (try dsimp only at hSx); go_simp; (try with_reducible rfl))
          simp only [List.getElem_toArray, List.getElem_cons_succ, List.getElem_cons_zero, Act.put, List.setIfInBounds_toArray, List.set_cons_zero, List.set_cons_succ]
          refine wpAnyH_ready (rs := [4, 5]) (by kernel_rfl) (by simp) ?_
          refine AllReadyH.cons rfl (fun K hK => ?_) (AllReadyH.cons rfl (fun K hK => ?_) AllReadyH.nil)
          · go_simp
            refine hK.out _ _ (by first | with_reducible exact y0 | with_reducible exact y0d | with_reducible exact y0a _ | with_reducible exact y0ad _ | with_reducible exact xq | with_reducible exact xqa _ | with_reducible exact xqs _ _ _ _) (fun hS => ?_)
            clear hK K
            try simp only [Act.put, List.setIfInBounds_toArray, List.set_cons_zero, List.set_cons_succ]
            refine wpAnyH_ready (rs := [5]) (by kernel_rfl) (by simp) ?_
            refine AllReadyH.cons rfl (fun K hK => ?_) AllReadyH.nil
            go_simp
            refine hK.out _ _ (by first | with_reducible exact y0 | with_reducible exact y0d | with_reducible exact y0a _ | with_reducible exact y0ad _ | with_reducible exact xq | with_reducible exact xqa _ | with_reducible exact xqs _ _ _ _) (fun hS => ?_)
            clear hK K
            try simp only [Act.put, List.setIfInBounds_toArray, List.set_cons_zero, List.set_cons_succ]
            refine wpAnyH_ready (rs := [6]) (by kernel_rfl) (by simp) ?_
            refine AllReadyH.cons rfl (fun K hK => ?_) AllReadyH.nil
            go_simp
            refine hK.out _ _ (by first | with_reducible exact y0 | with_reducible exact y0d | with_reducible exact y0a _ | with_reducible exact y0ad _ | with_reducible exact xq | with_reducible exact xqa _ | with_reducible exact xqs _ _ _ _) (fun hS => ?_)
            clear hK K
            try simp only [Act.put, List.setIfInBounds_toArray, List.set_cons_zero, List.set_cons_succ]
            refine wpAnyH_done (by kernel_rfl) ?_ _
            go_wp2_with fail
            go_meet
            first
              | exact ⟨_, rfl, HBw.out.size, Cells.new _ _ _, HBw.out.alloc HBw.out.size _⟩
              | exact ⟨_, rfl, Nat.le_refl _, (form_end HZq.out HXq.out HI3.out.lt HBw.out (Nat.le_refl _)).1, (form_end HZq.out HXq.out HI3.out.lt HBw.out (Nat.le_refl _)).2.2⟩
          · go_simp
            refine hK.out _ _ (by first | with_reducible exact y0 | with_reducible exact y0d | with_reducible exact y0a _ | with_reducible exact y0ad _ | with_reducible exact xq | with_reducible exact xqa _ | with_reducible exact xqs _ _ _ _) (fun hS => ?_)
            clear hK K
            try simp only [Act.put, List.setIfInBounds_toArray, List.set_cons_zero, List.set_cons_succ]
            refine wpAnyH_ready (rs := [4]) (by kernel_rfl) (by simp) ?_
            refine AllReadyH.cons rfl (fun K hK => ?_) AllReadyH.nil
            go_simp
            refine hK.out _ _ (by first | with_reducible exact y0 | with_reducible exact y0d | with_reducible exact y0a _ | with_reducible exact y0ad _ | with_reducible exact xq | with_reducible exact xqa _ | with_reducible exact xqs _ _ _ _) (fun hS => ?_)
            clear hK K
            try simp only [Act.put, List.setIfInBounds_toArray, List.set_cons_zero, List.set_cons_succ]
            refine wpAnyH_ready (rs := [6]) (by kernel_rfl) (by simp) ?_
            refine AllReadyH.cons rfl (fun K hK => ?_) AllReadyH.nil
            go_simp
            refine hK.out _ _ (by first | with_reducible exact y0 | with_reducible exact y0d | with_reducible exact y0a _ | with_reducible exact y0ad _ | with_reducible exact xq | with_reducible exact xqa _ | with_reducible exact xqs _ _ _ _) (fun hS => ?_)
            clear hK K
            try simp only [Act.put, List.setIfInBounds_toArray, List.set_cons_zero, List.set_cons_succ]
            refine wpAnyH_done (by kernel_rfl) ?_ _
            go_wp2_with fail
            go_meet
            first
              | exact ⟨_, rfl, HBw.out.size, Cells.new _ _ _, HBw.out.alloc HBw.out.size _⟩
              | exact ⟨_, rfl, Nat.le_refl _, (form_end HZq.out HXq.out HI3.out.lt HBw.out (Nat.le_refl _)).1, (form_end HZq.out HXq.out HI3.out.lt HBw.out (Nat.le_refl _)).2.2⟩
        · go_simp
          refine hK.out _ _ (by first | with_reducible exact y0 | with_reducible exact y0d | with_reducible exact y0a _ | with_reducible exact y0ad _ | with_reducible exact xq | with_reducible exact xqa _ | with_reducible exact xqs _ _ _ _) (fun hS => ?_)
          clear hK K
          try simp only [Act.put, List.setIfInBounds_toArray, List.set_cons_zero, List.set_cons_succ]
          refine wpAnyH_ready (rs := [0]) (by kernel_rfl) (by simp) ?_
          refine AllReadyH.cons rfl (fun K hK => ?_) AllReadyH.nil
          go_simp
          go_at_call 63
          refine (forms_in _).mono ?_
          rintro _ wq ⟨bq, rfl, hlq, hFq, hBq⟩
          have HXq := Lib.hid (show Cells wq Gx 102 #[.int .i64 (o : Nat), .int .i64 (v 0 : Nat), .int .i64 (v 1 : Nat), .int .i64 (v 2 : Nat), .int .i64 (n : Nat), .int .u64 (k : Nat)] from by first | exact Cells.keep HI3.out.drew hBq | exact Cells.keep (HI3.out.alloc _).drew hBq | exact Cells.keep (HI3.out.drew.alloc _).drew hBq)
          have xq : wq.cell? ⟨Gx, 0, none⟩ = some (.int .i64 (o : Int)) := HXq.out.cell (j := 0) rfl
          have xqa : ∀ Z, (wq.alloc Z).cell? ⟨Gx, 0, none⟩ = some (.int .i64 (o : Int)) := fun Z => (HXq.out.alloc Z).cell (j := 0) rfl
          have xqs : ∀ e1 e2 e3 e4, ((((wq.setCell ⟨w3.heap.size, 0, none⟩ e1).setCell ⟨w3.heap.size, 1, none⟩ e2).setCell ⟨w3.heap.size, 2, none⟩ e3).setCell ⟨w3.heap.size, 3, none⟩ e4).cell? ⟨Gx, 0, none⟩ = some (.int .i64 (o : Int)) := fun e1 e2 e3 e4 => ((((HXq.out.far (a := ⟨w3.heap.size, 0, none⟩) (Nat.ne_of_lt HI3.out.lt) e1).far (a := ⟨w3.heap.size, 1, none⟩) (Nat.ne_of_lt HI3.out.lt) e2).far (a := ⟨w3.heap.size, 2, none⟩) (Nat.ne_of_lt HI3.out.lt) e3).far (a := ⟨w3.heap.size, 3, none⟩) (Nat.ne_of_lt HI3.out.lt) e4).cell (j := 0) rfl
          obtain ⟨q0, q1, q2, q3⟩ := forms_at hFq o2
          have r0 := fun Z => (forms_at (hFq.alloc Z) o2).1
          have r1 := fun Z => (forms_at (hFq.alloc Z) o2).2.1
          have r2 := fun Z => (forms_at (hFq.alloc Z) o2).2.2.1
          have r3 := fun Z => (forms_at (hFq.alloc Z) o2).2.2.2
          try (have HZq := Lib.hid (show Cells wq w3.heap.size 104 #[.string ⟨#[]⟩, .int .i64 0, .bool false, .bool false] from Cells.keep (Cells.new w3 _ _).drew hBq); have z0 := HZq.out.cell (j := 0) rfl; have z1 := HZq.out.cell (j := 1) rfl; have z2 := HZq.out.cell (j := 2) rfl; have z3 := HZq.out.cell (j := 3) rfl; have f0 := HZq.out.fz 0; have f1 := HZq.out.fz 1; have f2 := HZq.out.fz 2; have f3 := HZq.out.fz 3)
          have HBw := Lib.hid (show Below w3.heap.size w3 wq from by first | exact grow_to (Below.refl _ w3).drew hBq | exact grow_to ((Below.refl _ w3).alloc (Nat.le_refl _) _).drew hBq)
          have HFq := Lib.hid hFq
          have HBq := Lib.hid hBq
          have HLq := Lib.hid hlq
          clear hFq hBq hlq
          refine hK.out _ _ (by first | with_reducible exact y0 | with_reducible exact y0d | with_reducible exact y0a _ | with_reducible exact y0ad _ | with_reducible exact xq | with_reducible exact xqa _ | with_reducible exact xqs _ _ _ _) (fun hS => ?_)
          clear hK K
          try simp only [Act.put, List.setIfInBounds_toArray, List.set_cons_zero, List.set_cons_succ]
          refine wpAnyH_take (i := 3) (v := ?_) rfl (by kernel_rfl) (by kernel_rfl) (by kernel_rfl) (fun _ _ _ h => h) (Or.inl ⟨by rfl, ?_⟩) hS ?_
          rotate_left
          · (intro wx hSx; (try dsimp only at hSx); go_simp; (try with_reducible rfl))
          simp only [List.getElem_toArray, List.getElem_cons_succ, List.getElem_cons_zero, Act.put, List.setIfInBounds_toArray, List.set_cons_zero, List.set_cons_succ]
          refine wpAnyH_ready (rs := [4]) (by kernel_rfl) (by simp) ?_
          refine AllReadyH.cons rfl (fun K hK => ?_) AllReadyH.nil
          go_simp
          refine hK.out _ _ (by first | with_reducible exact y0 | with_reducible exact y0d | with_reducible exact y0a _ | with_reducible exact y0ad _ | with_reducible exact xq | with_reducible exact xqa _ | with_reducible exact xqs _ _ _ _) (fun hS => ?_)
          clear hK K
          try simp only [Act.put, List.setIfInBounds_toArray, List.set_cons_zero, List.set_cons_succ]
          refine wpAnyH_ready (rs := [6]) (by kernel_rfl) (by simp) ?_
          refine AllReadyH.cons rfl (fun K hK => ?_) AllReadyH.nil
          go_simp
          refine hK.out _ _ (by first | with_reducible exact y0 | with_reducible exact y0d | with_reducible exact y0a _ | with_reducible exact y0ad _ | with_reducible exact xq | with_reducible exact xqa _ | with_reducible exact xqs _ _ _ _) (fun hS => ?_)
          clear hK K
          try simp only [Act.put, List.setIfInBounds_toArray, List.set_cons_zero, List.set_cons_succ]
          refine wpAnyH_done (by kernel_rfl) ?_ _
          go_wp2_with fail
          go_meet
          first
            | exact ⟨_, rfl, HBw.out.size, Cells.new _ _ _, HBw.out.alloc HBw.out.size _⟩
            | exact ⟨_, rfl, Nat.le_refl _, (form_end HZq.out HXq.out HI3.out.lt HBw.out (Nat.le_refl _)).1, (form_end HZq.out HXq.out HI3.out.lt HBw.out (Nat.le_refl _)).2.2⟩
      case rest =>
        obtain ⟨b5, rfl, hb5, hF, hB9⟩ := hcut
        rw [HFC.out] at hF
        clear HFC
        have HF9 := Lib.hid hF
        have HI9 := Lib.hid (HI3.out.keep hB9)
        have HB9 := Lib.hid (grow_to HB3.out hB9)
        clear hF hB9 hb5 HI3 HB3 i0 i1
        generalize txt (opWord o) = wd at *
        have d0 : wc.cell? ⟨Gx, 0, none⟩ = some (.int .i64 (o : Nat)) := HI9.out.cell (j := 0) rfl
        have sgo : ¬ 9223372036854775807 < Sg.size + So.size := by omega
        go_upto_region 10 with (go_at_call 131; go_loud (refine (ko _).mono ?_); rintro _ w4 ⟨rfl, hb4⟩; have HI4 := Lib.hid (HI9.out.keep hb4); have HF4 := Lib.hid (HF9.out.keep hb4); have HB4 := Lib.hid (grow_to HB9.out hb4); clear hb4)
        clear ko sgo d0 HI9 HF9 HB9
        have d1 : w4.cell? ⟨Gx, 1, none⟩ = some (.int .i64 (v 0 : Nat)) := HI4.out.cell (j := 1) rfl
        have d2 : w4.cell? ⟨Gx, 2, none⟩ = some (.int .i64 (v 1 : Nat)) := HI4.out.cell (j := 2) rfl
        have d3 : w4.cell? ⟨Gx, 3, none⟩ = some (.int .i64 (v 2 : Nat)) := HI4.out.cell (j := 3) rfl
        have f1 : w4.cell? ⟨b5, 1, none⟩ = some (.int .i64 (r : Nat)) := HF4.out.cell (j := 1) rfl
        have f1a : ∀ Z, (w4.alloc Z).cell? ⟨b5, 1, none⟩ = some (.int .i64 (r : Nat)) := fun Z => (HF4.out.alloc Z).cell (j := 1) rfl
        have i5 : (0 : Int) ≤ r := by omega
        have i6 : (r : Int) ≤ 3 := by omega
        go_wp2
        have HL5 := Lib.hid (Cells.new w4 3 #[.int .i64 (v 0 : Nat), .int .i64 (v 1 : Nat), .int .i64 (v 2 : Nat)])
        have HI5 := Lib.hid (HI4.out.alloc (.cells #[.int .i64 (v 0 : Nat), .int .i64 (v 1 : Nat), .int .i64 (v 2 : Nat)] 3))
        have HF5 := Lib.hid (HF4.out.alloc (.cells #[.int .i64 (v 0 : Nat), .int .i64 (v 1 : Nat), .int .i64 (v 2 : Nat)] 3))
        have HB5 := Lib.hid (HB4.out.alloc HB4.out.size (.cells #[.int .i64 (v 0 : Nat), .int .i64 (v 1 : Nat), .int .i64 (v 2 : Nat)] 3))
        clear HI4 HF4 HB4 d1 d2 d3 f1 f1a i5 i6
        generalize w4.alloc (.cells #[.int .i64 (v 0 : Nat), .int .i64 (v 1 : Nat), .int .i64 (v 2 : Nat)] 3) = w5 at *
        generalize w4.heap.size = Bl at *
        have sS : (Sg ++ So).size ≤ 810 := by rw [ByteArray.size_append]; omega
        clear sg so
        generalize Sg ++ So = SS at *
        clear w4 w3 wc
        go_loopw [59, 6] (fun iv bv wx => ∃ i : Nat, i ≤ r ∧ iv = .int .i64 (i : Int) ∧ bv = .string (SS ++ sr i) ∧ Below w5.heap.size w5 wx) (fun iv _ _ => r - (intOf iv).toNat)
        case atStart => exact ⟨0, Nat.zero_le _, rfl, by rw [HR0.out]; congr 1; exact (ByteArray.append_empty).symm, Below.refl _ _⟩
        case round =>
          obtain ⟨i, hi, rfl, rfl, hB⟩ := hrel
          have sI : (SS ++ sr i).size ≤ 820 := by rw [ByteArray.size_append]; have := HRS.out i; omega
          by_cases hlt2 : i < r
          · have h3i : i < 3 := by omega
            have l0 : wr.cell? ⟨Bl, i, none⟩ = some (.int .i64 (v i : Nat)) := (HL5.out.keep hB).cell (by rcases i with _ | _ | _ | i <;> first | rfl | omega)
            have HBX := Lib.hid hB
            have HSI : Hid (SS ++ sr (i + 1) = SS ++ sr i ++ sv i) := Lib.hid (by rw [HR1.out, ByteArray.append_assoc])
            have kv := KV.out i
            have uv := HV1.out i
            have svi := HVS.out i
            clear hB
            generalize SS ++ sr i = SI at *
            generalize sv i = Sv at *
            generalize v i = vi at *
            have i2 : (0 : Int) ≤ i := by omega
            have i3 : (i : Int) < 3 := by omega
            have i4 : (i : Int) < r := by omega
            have hwi : wrap64 ((i : Int) + 1) = (i : Int) + 1 := by unfold wrap64; omega
            have ssi : ¬ 9223372036854775807 < SI.size + Sv.size := by omega
            have HLT := Lib.hid hlt2
            clear sI svi h3i hlt2 hi
            have HDone : Hid (∀ wz : World, Below wr.heap.size wr wz → Below w5.heap.size w5 wz) := Lib.hid fun wz hz => grow_to HBX.out hz
            clear HBX hlt HSU KN KK HRS HVS HV1 HR0 HR1 uo un uk sn sk sS hf o1 o2 r3 n64 hb hg hl1
            go_upto_region 14 with (go_at_call 131; refine (kv _).mono ?_; rintro _ w6 ⟨rfl, hb6⟩; have HB6 := Lib.hid (HDone.out _ hb6); clear hb6)
            clear uv kv i4 i2 i3 ssi
            go_wp2
            exact ⟨⟨i + 1, HLT.out, up_val hwi, by rw [HSI.out], HB6.out⟩, up_end HLT.out hwi⟩
          · obtain rfl : i = r := by omega
            have HSU2 : Hid (str (HD (g + 1)) = SS ++ sr i ++ (if bn = true then Sn else str []) ++ (if bk = true then Sk else str [])) := HSU
            generalize SS ++ sr i = SR at *
            have i4 : ¬ (i : Int) < i := by omega
            have HF6 := Lib.hid (HF5.out.keep hB)
            have HI6 := Lib.hid (HI5.out.keep hB)
            have HB6 := Lib.hid (grow_to HB5.out hB)
            have kn := KN.out
            have kk := KK.out
            clear hB HSU KN KK KV HR1 HR0 HRS HVS HV1 HL5 HI5 HF5 HB5 hi hlt2
            have d4 : wr.cell? ⟨Gx, 4, none⟩ = some (.int .i64 (n : Nat)) := HI6.out.cell (j := 4) rfl
            have d5 : wr.cell? ⟨Gx, 5, none⟩ = some (.int .u64 (k : Nat)) := HI6.out.cell (j := 5) rfl
            have f2 : wr.cell? ⟨b5, 2, none⟩ = some (.bool bn) := HF6.out.cell (j := 2) rfl
            have f3 : wr.cell? ⟨b5, 3, none⟩ = some (.bool bk) := HF6.out.cell (j := 3) rfl
            have n1 := big_no sI sn
            have n2 := big_no sI (Nat.le_trans sk (by decide : 8 ≤ 10))
            have n4 := big_no3 sI sn sk
            have n3 : ¬ 9223372036854775807 < (SR ++ Sn).size + Sk.size := by rw [ByteArray.size_append]; exact n4
            have hwg := wrap_up hlt hl2
            have HG1 : Hid (g + 1 ≤ len ∧ g < len) := Lib.hid ⟨hlt, hlt⟩
            have e0 := str_nil
            clear uo sI sS sn sk hf o1 o2 r3 n64 hb hg hl1 hlt hl2
            cases bn <;> cases bk
            · have HFIN : Hid (str (HD (g + 1)) = SR) := Lib.hid (by rw [HSU2.out]; show SR ++ str [] ++ str [] = SR; rw [e0, ByteArray.append_empty, ByteArray.append_empty])
              clear n1 n2 n3 n4 kn kk d4 d5 e0 HSU2
              go_wp2
              clear HI6 HF6
              refine ⟨⟨g + 1, HG1.out.1, up_val hwg, by rw [HFIN.out], HB6.out⟩, up_end HG1.out.2 hwg⟩
            · have HFIN : Hid (str (HD (g + 1)) = SR ++ Sk) := Lib.hid (by rw [HSU2.out]; show SR ++ str [] ++ Sk = SR ++ Sk; rw [e0, ByteArray.append_empty])
              clear n1 n3 n4 kn d4 e0 HSU2
              go_wp2_with (go_at_call 132; refine (kk _).mono ?_; rintro _ w8 ⟨rfl, hb8⟩; have HB8 := Lib.hid (grow_to HB6.out hb8); clear hb8)
              clear HI6 HF6
              refine ⟨⟨g + 1, HG1.out.1, up_val hwg, by rw [HFIN.out], HB8.out⟩, up_end HG1.out.2 hwg⟩
            · have HFIN : Hid (str (HD (g + 1)) = SR ++ Sn) := Lib.hid (by rw [HSU2.out]; show SR ++ Sn ++ str [] = SR ++ Sn; rw [e0, ByteArray.append_empty])
              clear n2 n3 n4 kk d5 e0 HSU2
              go_wp2_with (go_at_call 131; refine (kn _).mono ?_; rintro _ w7 ⟨rfl, hb7⟩; have f4 : w7.cell? ⟨b5, 3, none⟩ = some (.bool _) := (HF6.out.keep (grow_to (Below.refl _ _) hb7)).cell (j := 3) rfl; have HB7 := Lib.hid (grow_to HB6.out hb7); have d6 : w7.cell? ⟨Gx, 5, none⟩ = some (.int .u64 (k : Nat)) := (HI6.out.keep (grow_to (Below.refl _ _) hb7)).cell (j := 5) rfl; clear hb7)
              clear HI6 HF6
              refine ⟨⟨g + 1, HG1.out.1, up_val hwg, by rw [HFIN.out], HB7.out⟩, up_end HG1.out.2 hwg⟩
            · have HFIN : Hid (str (HD (g + 1)) = SR ++ Sn ++ Sk) := Lib.hid (HSU2.out)
              clear n2 e0 HSU2
              go_wp2_with (first | (go_at_call 131; refine (kn _).mono ?_; rintro _ w7 ⟨rfl, hb7⟩; have f4 : w7.cell? ⟨b5, 3, none⟩ = some (.bool _) := (HF6.out.keep (grow_to (Below.refl _ _) hb7)).cell (j := 3) rfl; have HB7 := Lib.hid (grow_to HB6.out hb7); have d6 : w7.cell? ⟨Gx, 5, none⟩ = some (.int .u64 (k : Nat)) := (HI6.out.keep (grow_to (Below.refl _ _) hb7)).cell (j := 5) rfl; clear hb7) | (go_at_call 132; refine (kk _).mono ?_; rintro _ w8 ⟨rfl, hb8⟩; have HB8 := Lib.hid (grow_to HB7.out hb8); clear hb8))
              clear HI6 HF6
              refine ⟨⟨g + 1, HG1.out.1, up_val hwg, by rw [HFIN.out], HB8.out⟩, up_end HG1.out.2 hwg⟩
    · obtain rfl : g = len := by omega
      have i1 : ¬ (g : Int) < g := by omega
      go_wp2
      go_ret2
      exact ⟨rfl, HBR.out⟩
end Go.Proofs.YtdkencepmdfacaaGreatDoor
