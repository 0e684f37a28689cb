/- wire.Decode. -/
import Derived.Test.YtpnfdmglhonkmaaReadFit
import Derived.Laws.ResultCell
import Derived.Laws.Rows
set_option maxRecDepth 100000
namespace Go.Proofs.Ytpnfdmglhonkmaa
open Go.RowKit

set_option maxHeartbeats 1000000 in
theorem Ms.storedNone {w : World} {g : Nat} {Z : Mg} (hz : Ms w g Z) : Ms (((((((((((w.setCell ⟨g, 0, none⟩ (.int .i64 0)).setCell ⟨g, 1, none⟩ (.int .i64 0)).setCell ⟨g, 2, none⟩ (.int .i64 0)).setCell ⟨g, 3, none⟩ (.int .i64 0)).setCell ⟨g, 4, none⟩ (.int .i64 0)).setCell ⟨g, 5, none⟩ (.int .i64 0)).setCell ⟨g, 6, none⟩ (.int .i64 0)).setCell ⟨g, 7, none⟩ (.int .i64 0)).setCell ⟨g, 8, none⟩ (.int .u64 0)).setCell ⟨g, 9, none⟩ (.string ⟨#[]⟩)).setCell ⟨g, 10, none⟩ (.string ⟨#[]⟩)) g (Mg.none 0) := by
  unfold Ms at hz
  have h := (((((((((((hz.set 0 (.int .i64 0)).set 1 (.int .i64 0)).set 2 (.int .i64 0)).set 3 (.int .i64 0)).set 4 (.int .i64 0)).set 5 (.int .i64 0)).set 6 (.int .i64 0)).set 7 (.int .i64 0)).set 8 (.int .u64 0)).set 9 (.string ⟨#[]⟩)).set 10 (.string ⟨#[]⟩))
  have e : (((((((((((Z.cells.setIfInBounds 0 (.int .i64 0)).setIfInBounds 1 (.int .i64 0)).setIfInBounds 2 (.int .i64 0)).setIfInBounds 3 (.int .i64 0)).setIfInBounds 4 (.int .i64 0)).setIfInBounds 5 (.int .i64 0)).setIfInBounds 6 (.int .i64 0)).setIfInBounds 7 (.int .i64 0)).setIfInBounds 8 (.int .u64 0)).setIfInBounds 9 (.string ⟨#[]⟩)).setIfInBounds 10 (.string ⟨#[]⟩)) = (Mg.none 0).cells := by simp [Mg.cells, Mg.none]
  rw [e] at h
  exact h

theorem ret_cell_tmp {P : Program} {fn : Func} {R : Ending → World → Prop} {a : Act} {w : World} {p u : Tmp} {ty t : TypeId} {d : TypeDesc} (h : fn.results = #[.cell p ty, .tmp u]) {g : Nat} {cs : Array Value} {fr : Nat × Nat} {x : Value}
    (hp : a.tmps.getD p undef = .pointer (some ⟨g, 0, none⟩)) (hx : a.tmps.getD u undef = x) (hg : w.heap[g]? = some (.cells cs t fr)) (hu : P.underlying ty = some d) (hd : (match d with | .struct _ | .array _ _ => true | _ => false) = true) (hi : (P.info? ty).map (·.size) = some cs.size) (hdef : a.defers = [])
    (hR : R (.returned (.tuple #[.agg cs, x])) w) : bodyPost P fn R .ret a w := by
  refine bodyPost_ret (v := .tuple #[.agg cs, x]) ?_ hdef hR
  rw [results_cell_tmp h, hp, hx]
  simp only [asAddr, Sem.run_pure, Result.andThen, run_loadVar_row w g t ty cs fr d hg hu hd hi]

theorem msg_size : (Try.prog.info? 61).map (·.size) = some 11 := by kernel_rfl

theorem dec_ret {fn : Func} {R : Ending → World → Prop} {a : Act} {w : World} (h : fn.results = #[.cell 2 61, .tmp 3]) {g : Nat} {m : Mg} {x : Value}
    (hp : a.tmps.getD 2 undef = .pointer (some ⟨g, 0, none⟩)) (hx : a.tmps.getD 3 undef = x) (hg : Ms w g m) (hdef : a.defers = []) (hR : R (.returned (.tuple #[m.val, x])) w) : bodyPost Try.prog fn R .ret a w :=
  ret_cell_tmp h hp hx hg Try.underlying61 rfl msg_size hdef hR

theorem below_setAt {k g off : Nat} {w w' : World} {v : Value} (h : Below k w w') (hg : k ≤ g) : Below k w (w'.setCell ⟨g, off, none⟩ v) := h.setCell hg v

theorem dec_end {w wr wa wy : World} {lo hi gm gr gz : Nat} {A : Option Addr} {L : List Fd} (hF : FieldsAt wr lo hi A L) (hz : Ms wr gz (Mg.none 0)) (hb : Below w.heap.size w wr) (hs : hi ≤ wr.heap.size)
    (h1 : gm < lo) (h2 : gr < lo) (hgz : gz ≠ gm ∧ gz ≠ gr) (hgm : w.heap.size ≤ gm) (hgr : w.heap.size ≤ gr) (ha : Below wr.heap.size wr wa) (ht : Turns [gm, gr] wa wy) :
    FieldsAt wy lo hi A L ∧ Ms wy gz (Mg.none 0) ∧ Below w.heap.size w wy ∧ hi ≤ wy.heap.size := by
  have hsa : hi ≤ wa.heap.size := Nat.le_trans hs ha.size
  refine ⟨(hF.kept (Kept.of_below (ha.mono hs))).kept (Kept.turns ht hsa ?_), (Cells.keep hz ha).turns ht (by simp [hgz.1, hgz.2]), (hb.trans (ha.mono hb.size)).trans (ht.below (Nat.le_trans hb.size ha.size) ?_), Nat.le_trans hsa ht.size⟩
  · intro g hg
    simp at hg
    rcases hg with rfl | rfl
    · exact .inl h1
    · exact .inl h2
  · intro g hg
    simp at hg
    rcases hg with rfl | rfl
    · exact hgm
    · exact hgr

set_option maxHeartbeats 8000000 in
set_option maxRecDepth 100000 in
theorem Decode_any (b : ByteArray) (w : World) (hb : b.size < 1073741824) :
    Calls Try.prog 14 #[.string b] w fun e w' => e = .returned (.tuple #[(decode b).1.val, .int .i64 (decode b).2]) ∧ Below w.heap.size w w' := by
  obtain ⟨W, hW⟩ : ∃ W, W = w.alloc (.cells #[.int .i64 0, .int .i64 0, .int .i64 0, .int .i64 0, .int .i64 0, .int .i64 0, .int .i64 0, .int .i64 0, .int .u64 0, .string ⟨#[]⟩, .string ⟨#[]⟩] 61) := ⟨_, rfl⟩
  have hz : Ms W w.heap.size (Mg.none 0) := by rw [hW]; exact Cells.newAt _ _ _ _ rfl
  have hBW : Below w.heap.size w W := by rw [hW]; exact below_new0 _ _
  have hs : W.heap.size = w.heap.size + 1 := by rw [hW]; simp
  have HW := Lib.hid hW
  have HS := Lib.hid hs
  clear hW hs
  by_cases hbig : 2048 < b.size
  · have t0 : decide ((2048 : Int) < (b.size : Int)) = true := decide_eq_true (by omega)
    have hdec : decode b = (Mg.none 0, 73) := by
      unfold decode
      rw [if_pos hbig]
    have HD := Lib.hid hdec
    clear hdec
    go_enter Try.func14, Try.ntmps14
    go_wp2
    rw [← HW.out]
    exact dec_ret rfl rfl rfl hz rfl ⟨by rw [HD.out]; rfl, hBW⟩
  · have t0 : decide ((2048 : Int) < (b.size : Int)) = false := decide_eq_false (by omega)
    have hdec : decode b = if endE b (readAll b).2.1 (readAll b).2.2 ≠ 0 ∨ (readAll b).1.check ≠ 0 then (Mg.none 0, 72) else ((readAll b).1, 0) := by
      unfold decode
      rw [if_neg hbig]
    have hki := kind_inv b
    have hrk : readKind b = (Mg.none (rdrStep (0 : Int) (upR (numR (b.data.toList.drop 0) 16 21)) 0 0).1, (rdrStep (0 : Int) (upR (numR (b.data.toList.drop 0) 16 21)) 0 0).2) := rfl
    have hra : readAll b = (fieldsOf (readKind b).1.kind.toNat).foldl (fun s f => f.read b s) (readKind b) := rfl
    have hfin := fold_inv hb (fieldsOf (readKind b).1.kind.toNat) (readKind b) hki.1
    rw [← hra] at hfin
    have hnum := fun wx (hx : Rdr wx W.heap.size b 0 0) => rNum W.heap.size b 0 0 16 wx hx (Nat.zero_le _) (by omega) (by omega)
    generalize rdrStep (0 : Int) (upR (numR (b.data.toList.drop 0) 16 21)) 0 0 = R0 at hnum hrk
    obtain ⟨v, p0, e0⟩ := R0
    simp only at hrk
    rw [hrk] at hra hki
    have hv : 0 ≤ v ∧ v ≤ 16 := hki.2
    have hinv0 : ReadInv b (Mg.none v, p0, e0) := hki.1
    have hra : readAll b = (fieldsOf v.toNat).foldl (fun s f => f.read b s) (Mg.none v, p0, e0) := hra
    have HV := Lib.hid (i64_of hv.1 (by omega))
    have HN := Lib.hid hnum
    have HRA := Lib.hid hra
    have HD := Lib.hid hdec
    have HFI := Lib.hid hfin
    clear hnum hra hki hrk hdec hfin
    go_enter Try.func14, Try.ntmps14
    go_wp2_with fail
    rw [← HW.out]
    refine (read_any b W).mono ?_
    rintro x w1 ⟨rfl, hR1, hb1, hs1⟩
    have HS1 := Lib.hid hs1
    clear hs1
    go_wp2_with fail
    refine (HN.out _ hR1).mono ?_
    rintro x w2 ⟨rfl, hR2, hg2⟩
    simp only at hR2
    have hz2 : Ms w2 w.heap.size (Mg.none 0) := (Cells.keep hz hb1).grown hg2 (by rw [HS.out]; intro he; injection he with he; omega)
    have hb2 : Below w.heap.size w w2 := (hBW.trans (hb1.mono hBW.size)).trans (below_of_only hg2 (by rw [HS.out]; omega) (Nat.le_trans hBW.size hb1.size))
    have hgm : w.heap.size ≤ w2.heap.size := hb2.size
    have hgr2 : W.heap.size < w2.heap.size := hR2.lt
    go_wp2_with fail
    try rw [HV.out]
    refine (fields_int v _ hv.1 hv.2).mono ?_
    rintro x w3 ⟨A, rfl, hF, hb3⟩
    have hm3 : Ms w3 w2.heap.size (Mg.none v) := (Cells.newAt w2 61 (Mg.none v).cells _ rfl).keep hb3
    have hR3 : Rdr w3 W.heap.size b p0 e0 := (hR2.alloc _).below hb3 (by simp; omega)
    have hz3 : Ms w3 w.heap.size (Mg.none 0) := (Cells.alloc hz2 _).keep hb3
    have hlo : (w2.alloc (.cells (Mg.none v).cells 61)).heap.size = w2.heap.size + 1 := by simp
    have hbw3 : Below w.heap.size w w3 := (hb2.alloc hgm _).trans (hb3.mono (by simp; omega))
    have hF : FieldsAt w3 (w2.heap.size + 1) w3.heap.size A (fieldsOf v.toNat) := by rw [← hlo]; exact hF
    have hlohi : w2.heap.size + 1 ≤ w3.heap.size := by rw [← hlo]; exact hb3.size
    have hok := fieldsOf_ok v.toNat
    have hlen := fieldsOf_len v.toNat
    have hra := HRA.out
    generalize fieldsOf v.toNat = L at hF hok hlen hra ⊢
    have HRA2 := Lib.hid hra
    have HOK := Lib.hid hok
    have HLO := Lib.hid hlo
    have hgz : w.heap.size ≠ w2.heap.size ∧ w.heap.size ≠ W.heap.size := ⟨by have := HS.out; omega, by rw [HS.out]; omega⟩
    have hgrw : w.heap.size ≤ W.heap.size := by rw [HS.out]; omega
    have hg2 : W.heap.size < w2.heap.size + 1 := Nat.lt_succ_of_lt hgr2
    have hg1 : w2.heap.size < w2.heap.size + 1 := Nat.lt_succ_self _
    have HINV := Lib.hid fun j => fold_inv hb (L.take j) (Mg.none v, p0, e0) hinv0
    clear hok hra hR2 hR1 hz2 hz hlo
    go_wp2_with fail
    go_loopw [24] (fun i wx => ∃ j : Nat, j ≤ L.length ∧ i = .int .i64 (j : Int) ∧ FieldsAt wx (w2.heap.size + 1) w3.heap.size A L ∧ Ms wx w2.heap.size ((L.take j).foldl (fun s f => f.read b s) (Mg.none v, p0, e0)).1 ∧ Rdr wx W.heap.size b ((L.take j).foldl (fun s f => f.read b s) (Mg.none v, p0, e0)).2.1 ((L.take j).foldl (fun s f => f.read b s) (Mg.none v, p0, e0)).2.2
        ∧ Ms wx w.heap.size (Mg.none 0) ∧ Below w.heap.size w wx ∧ w3.heap.size ≤ wx.heap.size) (fun i _ => L.length - (intOf i).toNat)
    case atStart => exact ⟨0, Nat.zero_le _, rfl, hF, hm3, hR3, hz3, hbw3, Nat.le_refl _⟩
    case round =>
      obtain ⟨j, hj, rfl, hFr, hmr, hRr, hzr, hbr, hsr⟩ := hrel
      by_cases hlt : j < L.length
      · have hst : (L.take (j + 1)).foldl (fun s f => f.read b s) (Mg.none v, p0, e0) = (L[j]).read b ((L.take j).foldl (fun s f => f.read b s) (Mg.none v, p0, e0)) := by
          rw [List.take_succ_eq_append_getElem hlt, List.foldl_append]
          rfl
        obtain ⟨g, rfl, hg, v1, v2, v3, e1, e2, e3, hv'⟩ := hFr.get (List.getElem?_eq_getElem hlt)
        have hfok := HOK.out L[j] (List.getElem_mem hlt)
        have hinv := HINV.out j
        generalize (L.take j).foldl (fun s f => f.read b s) (Mg.none v, p0, e0) = S at hst hmr hRr hinv
        obtain ⟨m, p, e⟩ := S
        have hp : p ≤ b.size := hinv.2
        simp only at hmr hRr
        have HST := Lib.hid hst
        clear hst hinv
        generalize hf0 : L[j] = f at hv' hfok HST
        clear hf0
        have hi0 : (0 : Int) ≤ (j : Int) := by omega
        have hi1 : (j : Int) < (L.length : Int) := by omega
        cases f with
        | whole k l h =>
          obtain ⟨b1, b2, b3, r1, r2, r3, rfl, rfl, rfl, c1, c2, c3⟩ := hv'
          have hk : 1 ≤ k ∧ k ≤ 6 := by simpa [Fd.ok] using hfok
          have hcall := fun (o : Obj) => wholeRead w2.heap.size W.heap.size b1 k l h b m p e _ (c1.alloc o) (Cells.alloc hmr o) (hRr.alloc o) hk.1 hk.2 hp (by omega)
          generalize (Fd.whole k l h).read b (m, p, e) = S1 at HST hcall
          have HCALL := Lib.hid hcall
          clear hcall c1 c2 c3 hfok hk
          go_wp2_with fail
          refine (HCALL.out _).mono ?_
          rintro x wy ⟨rfl, hmy, hRy, hty⟩
          have HE := Lib.hid <| dec_end hFr hzr hbr hsr hg1 hg2 hgz hgm hgrw (below_new0 wr (.cells #[.func (.func 59) #[] #[ptr b1, ptr b2, ptr b3], .func (.func 60) #[] #[ptr b1], .func (.func 61) #[] #[ptr b1]] 79)) hty
          have HM := Lib.hid hmy
          have HR := Lib.hid hRy
          clear hmy hRy hty
          go_wp2
          go_roundw
          case rel => exact ⟨j + 1, by omega, by go_num, HE.out.1, by rw [HST.out]; exact HM.out, by rw [HST.out]; exact HR.out, HE.out.2.1, HE.out.2.2.1, HE.out.2.2.2⟩
          case measure => simp [intOf]; omega
        | text k l h =>
          obtain ⟨b1, b2, b3, r1, r2, r3, rfl, rfl, rfl, c1, c2, c3⟩ := hv'
          have hk : (k = 9 ∨ k = 10) ∧ h ≤ 1024 := by simpa [Fd.ok] using hfok
          have hcall := fun (o : Obj) => textRead w2.heap.size W.heap.size b1 b3 k l h b m p e _ (c1.alloc o) (c3.alloc o) (Cells.alloc hmr o) (hRr.alloc o) hk.1 (by omega) hp (by omega)
          generalize (Fd.text k l h).read b (m, p, e) = S1 at HST hcall
          have HCALL := Lib.hid hcall
          clear hcall c1 c2 c3 hfok hk
          go_wp2_with fail
          refine (HCALL.out _).mono ?_
          rintro x wy ⟨rfl, hmy, hRy, hty⟩
          have HE := Lib.hid <| dec_end hFr hzr hbr hsr hg1 hg2 hgz hgm hgrw (below_new0 wr (.cells #[.func (.func 62) #[] #[ptr b1, ptr b2, ptr b3], .func (.func 63) #[] #[ptr b1], .func (.func 65) #[] #[ptr b3, ptr b1]] 79)) hty
          have HM := Lib.hid hmy
          have HR := Lib.hid hRy
          clear hmy hRy hty
          go_wp2
          go_roundw
          case rel => exact ⟨j + 1, by omega, by go_num, HE.out.1, by rw [HST.out]; exact HM.out, by rw [HST.out]; exact HR.out, HE.out.2.1, HE.out.2.2.1, HE.out.2.2.2⟩
          case measure => simp [intOf]; omega
        | result =>
          obtain ⟨rfl, rfl, rfl⟩ := hv'
          have hcall := fun (o : Obj) => resultRead w2.heap.size W.heap.size b m p e _ (Cells.alloc hmr o) (hRr.alloc o) hp (by omega)
          generalize Fd.result.read b (m, p, e) = S1 at HST hcall
          have HCALL := Lib.hid hcall
          clear hcall hfok
          unfold fn0 at e1 e2 e3
          go_wp2_with fail
          refine (HCALL.out _).mono ?_
          rintro x wy ⟨rfl, hmy, hRy, hty⟩
          have HE := Lib.hid <| dec_end hFr hzr hbr hsr hg1 hg2 hgz hgm hgrw (below_new0 wr (.cells #[fn0 67, fn0 69, fn0 71] 79)) hty
          have HM := Lib.hid hmy
          have HR := Lib.hid hRy
          clear hmy hRy hty
          go_wp2
          go_roundw
          case rel => exact ⟨j + 1, by omega, by go_num, HE.out.1, by rw [HST.out]; exact HM.out, by rw [HST.out]; exact HR.out, HE.out.2.1, HE.out.2.2.1, HE.out.2.2.2⟩
          case measure => simp [intOf]; omega
      · have hjl : j = L.length := by omega
        subst hjl
        rw [List.take_of_length_le (Nat.le_refl _), ← HRA2.out] at hmr hRr
        have hfin := HFI.out
        have hdec := HD.out
        generalize readAll b = S at hmr hRr hfin hdec
        obtain ⟨m, p, e⟩ := S
        simp only at hmr hRr hdec
        have hend := fun wx (hx : Rdr wx W.heap.size b p e) => end_any W.heap.size b p e wx hx
        generalize endE b p e = E at hend hdec
        have hchk := fun wx => Check_any m wx hfin.1
        generalize hC : m.check = C at hchk hdec
        clear hC
        have HC := Lib.hid hchk
        have HDEC := Lib.hid hdec
        clear hchk hdec
        go_wp2_with fail
        refine (hend _ hRr).mono ?_
        rintro x wy ⟨rfl, n1, rfl⟩
        have hmy : Ms (wr.drewN n1) w2.heap.size m := hmr
        have hzy : Ms (wr.drewN n1) w.heap.size (Mg.none 0) := hzr
        have hby : Below w.heap.size w (wr.drewN n1) := below_drewN hbr n1
        generalize wr.drewN n1 = wy at hmy hzy hby ⊢
        obtain ⟨z0, z1, z2, z3, z4, z5, z6, z7, z8, z9, z10⟩ := Ms.all hzy
        have zf := fun j => Cells.fz hzy j
        obtain ⟨k0, k1, k2, k3, k4, k5, k6, k7, k8, k9, k10⟩ := Ms.all hmy
        by_cases hE : E = 0
        · subst hE
          go_wp2_with fail
          refine (HC.out _).mono ?_
          rintro x wq ⟨rfl, hbq⟩
          have hmq : Ms wq w2.heap.size m := Cells.keep hmy hbq
          have hzq : Ms wq w.heap.size (Mg.none 0) := Cells.keep hzy hbq
          have hbyq : Below w.heap.size w wq := hby.trans (hbq.mono hby.size)
          clear z0 z1 z2 z3 z4 z5 z6 z7 z8 z9 z10 zf k0 k1 k2 k3 k4 k5 k6 k7 k8 k9 k10
          obtain ⟨z0, z1, z2, z3, z4, z5, z6, z7, z8, z9, z10⟩ := Ms.all hzq
          have zf := fun j => Cells.fz hzq j
          obtain ⟨k0, k1, k2, k3, k4, k5, k6, k7, k8, k9, k10⟩ := Ms.all hmq
          by_cases hC0 : C = 0
          · subst hC0
            go_wp2
            generalize hW3 : World.setCell _ _ _ = W3
            have hfin3 : Ms W3 w.heap.size (m) := by
              rw [← hW3]
              exact Ms.stored hzq (m)
            have hb3' : Below w.heap.size w W3 := by
              rw [← hW3]
              iterate 11 (refine below_setAt ?_ (Nat.le_refl _))
              exact hbyq
            exact dec_ret rfl rfl rfl hfin3 rfl ⟨by rw [HDEC.out, if_neg (by simp)]; rfl, hb3'⟩
          · have t2 : (C != 0) = true := by rw [bne_iff_ne]; exact hC0
            have HCC := Lib.hid hC0
            clear hC0
            go_wp2
            generalize hW3 : World.setCell _ _ _ = W3
            have hfin3 : Ms W3 w.heap.size (Mg.none 0) := by
              rw [← hW3]
              exact Ms.storedNone hzq
            have hb3' : Below w.heap.size w W3 := by
              rw [← hW3]
              iterate 11 (refine below_setAt ?_ (Nat.le_refl _))
              exact hbyq
            exact dec_ret rfl rfl rfl hfin3 rfl ⟨by rw [HDEC.out, if_pos (.inr HCC.out)]; rfl, hb3'⟩
        · have t1 : (E != 0) = true := by rw [bne_iff_ne]; exact hE
          have HEE := Lib.hid hE
          clear hE
          go_wp2
          generalize hW3 : World.setCell _ _ _ = W3
          have hfin3 : Ms W3 w.heap.size (Mg.none 0) := by
            rw [← hW3]
            exact Ms.storedNone hzy
          have hb3' : Below w.heap.size w W3 := by
            rw [← hW3]
            iterate 11 (refine below_setAt ?_ (Nat.le_refl _))
            exact hby
          exact dec_ret rfl rfl rfl hfin3 rfl ⟨by rw [HDEC.out, if_pos (.inl HEE.out)]; rfl, hb3'⟩
end Go.Proofs.Ytpnfdmglhonkmaa
