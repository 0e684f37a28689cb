/- WireSpoilt: a message whose one byte was changed is no message, or another one. Condition: the arguments are together of bulk at most 1048576. -/
import Derived.Test.YtcladlebmoefgaaWAwake
namespace Go.Proofs.Ytcladlebmoefgaa.wireSpoilt
open Go.RowKit Go.WideShapes Go.ChangeShapes Go.ChangeAt
open Go.ChangeMaps (open_string shut_string)

theorem msg_neq (m n : Mg) (w : World) : (binOp .neq 26 m.val n.val).run Try.prog w = .ok (.bool (!decide (m = n))) w := by
  simp [go_sem]
  by_cases h : m = n
  · subst h
    simp
  · rw [decide_eq_false h]
    repeat' split
    all_goals first | rfl | skip
    exfalso
    apply h
    cases m
    cases n
    simp only at *
    simp only [Mg.mk.injEq]
    refine ⟨?_, ?_, ?_, ?_, ?_, ?_, ?_, ?_, ?_, bytes_inj ?_, bytes_inj ?_⟩ <;> assumption

theorem extract_take (l : List UInt8) (k : Nat) : (str l).extract 0 k = str (l.take k) := by
  apply ByteArray.ext
  apply Array.toList_inj.1
  simp [str]

theorem str_app (l : List UInt8) (b : ByteArray) : str l ++ b = str (l ++ b.data.toList) := by
  apply ByteArray.ext
  apply Array.toList_inj.1
  simp [str]

def NoneAll (w : World) (g : Nat) : Prop := (∀ k, w.frozen? ⟨g, k, none⟩ = false) ∧ w.cell? ⟨g, 0, none⟩ = some (.int .i64 0) ∧ w.cell? ⟨g, 1, none⟩ = some (.int .i64 0) ∧ w.cell? ⟨g, 2, none⟩ = some (.int .i64 0) ∧ w.cell? ⟨g, 3, none⟩ = some (.int .i64 0) ∧ w.cell? ⟨g, 4, none⟩ = some (.int .i64 0) ∧ w.cell? ⟨g, 5, none⟩ = some (.int .i64 0) ∧ w.cell? ⟨g, 6, none⟩ = some (.int .i64 0) ∧ w.cell? ⟨g, 7, none⟩ = some (.int .i64 0) ∧ w.cell? ⟨g, 8, none⟩ = some (.int .u64 0) ∧ w.cell? ⟨g, 9, none⟩ = some (.string ⟨#[]⟩) ∧ w.cell? ⟨g, 10, none⟩ = some (.string ⟨#[]⟩)
theorem none_all {w : World} {g : Nat} (h : Cells w g 26 (Mg.none 0).cells) : NoneAll w g :=
  ⟨fun k => h.fz k, h.cell rfl, h.cell rfl, h.cell rfl, h.cell rfl, h.cell rfl, h.cell rfl, h.cell rfl, h.cell rfl, h.cell rfl, h.cell rfl, h.cell rfl⟩
theorem none_elim {w : World} {g : Nat} {p : Prop} (h : NoneAll w g) (k : (∀ k, w.frozen? ⟨g, k, none⟩ = false) → w.cell? ⟨g, 0, none⟩ = some (.int .i64 0) → w.cell? ⟨g, 1, none⟩ = some (.int .i64 0) → w.cell? ⟨g, 2, none⟩ = some (.int .i64 0) → w.cell? ⟨g, 3, none⟩ = some (.int .i64 0) → w.cell? ⟨g, 4, none⟩ = some (.int .i64 0) → w.cell? ⟨g, 5, none⟩ = some (.int .i64 0) → w.cell? ⟨g, 6, none⟩ = some (.int .i64 0) → w.cell? ⟨g, 7, none⟩ = some (.int .i64 0) → w.cell? ⟨g, 8, none⟩ = some (.int .u64 0) → w.cell? ⟨g, 9, none⟩ = some (.string ⟨#[]⟩) → w.cell? ⟨g, 10, none⟩ = some (.string ⟨#[]⟩) → p) : p :=
  k h.1 h.2.1 h.2.2.1 h.2.2.2.1 h.2.2.2.2.1 h.2.2.2.2.2.1 h.2.2.2.2.2.2.1 h.2.2.2.2.2.2.2.1 h.2.2.2.2.2.2.2.2.1 h.2.2.2.2.2.2.2.2.2.1 h.2.2.2.2.2.2.2.2.2.2.1 h.2.2.2.2.2.2.2.2.2.2.2
theorem none_kept {w w' : World} {o : Obj} (hb : Below ((w.alloc (.cells (Mg.none 0).cells 26)).alloc o).drew.heap.size ((w.alloc (.cells (Mg.none 0).cells 26)).alloc o).drew w') : NoneAll w' w.heap.size := none_all (Cells.keep (Cells.drew ((Cells.new w 26 _).alloc o)) hb)
theorem none_kept2 {w w' : World} {o : Obj} (hb : Below ((w.alloc o).alloc (.cells (Mg.none 0).cells 26)).drew.heap.size ((w.alloc o).alloc (.cells (Mg.none 0).cells 26)).drew w') : NoneAll w' (w.heap.size + 1) := none_all (Cells.keep (Cells.drew (Cells.newAt (w.alloc o) 26 (Mg.none 0).cells (w.heap.size + 1) (by simp))) hb)
structure Fin (w : World) (g0 g : Nat) (nn m : Mg) (W : World) : Prop where
  n : Ms W g nn
  m : Ms W g0 m
  b : Below w.heap.size w W
theorem gen_end {F : World → Prop} {W : World} {P : World → Prop} (h : P W) (k : ∀ Wf, P Wf → F Wf) : F W := k _ h
theorem fin_stored {w w2 w3 : World} {nn m Z : Mg} {g g0 : Nat} (hk : Ms w2 g0 m ∧ Below w.heap.size w w2) (hz : Ms w3 g Z) (hg : w2.heap.size ≤ g) (h3 : Below w2.heap.size w2 w3) : Fin w g0 g nn m (((((((((((w3.setCell ⟨g, 0, none⟩ (.int .i64 nn.kind)).setCell ⟨g, 1, none⟩ (.int .i64 nn.sess)).setCell ⟨g, 2, none⟩ (.int .i64 nn.num)).setCell ⟨g, 3, none⟩ (.int .i64 nn.job)).setCell ⟨g, 4, none⟩ (.int .i64 nn.badge)).setCell ⟨g, 5, none⟩ (.int .i64 nn.idx)).setCell ⟨g, 6, none⟩ (.int .i64 nn.cnt)).setCell ⟨g, 7, none⟩ (.int .i64 nn.code)).setCell ⟨g, 8, none⟩ (.int .u64 nn.bits)).setCell ⟨g, 9, none⟩ (.string nn.text)).setCell ⟨g, 10, none⟩ (.string nn.prog)) := by
  have hM : Ms w3 g0 m := Cells.keep hk.1 h3
  have hne : g0 ≠ g := Nat.ne_of_lt (Nat.lt_of_lt_of_le (Cells.lt hk.1) hg)
  have hB : Below w.heap.size w w3 := hk.2.trans (h3.mono hk.2.size)
  have hg2 : w.heap.size ≤ g := Nat.le_trans hk.2.size hg
  refine ⟨Ms.stored hz nn, ?_, ?_⟩
  · unfold Ms at hM ⊢
    iterate 11 (refine Cells.far ?_ hne _)
    exact hM
  · iterate 11 (refine below_setAt ?_ hg2)
    exact hB
theorem fin_a {w w2 w3 : World} {nn m : Mg} {g0 : Nat} {o : Obj} (hk : Ms w2 g0 m ∧ Below w.heap.size w w2) (hb : Below (w2.alloc o).drew.heap.size (w2.alloc o).drew w3) : Fin w g0 w3.heap.size nn m (w3.alloc (.cells nn.cells 26)) := by
  have h3 : Below w2.heap.size w2 w3 := ((Below.refl _ _).alloc (Nat.le_refl _) o).drew.trans (hb.mono (by simp [go_sem]))
  have hB : Below w.heap.size w w3 := hk.2.trans (h3.mono hk.2.size)
  exact ⟨Cells.new w3 _ _, (Cells.keep hk.1 h3).alloc _, hB.alloc hB.size _⟩
theorem fin_b {w w2 w3 : World} {nn m : Mg} {g0 : Nat} {o : Obj} (hk : Ms w2 g0 m ∧ Below w.heap.size w w2) (hb : Below ((w2.alloc (.cells (Mg.none 0).cells 26)).alloc o).drew.heap.size ((w2.alloc (.cells (Mg.none 0).cells 26)).alloc o).drew w3) : ∀ g, g = w2.heap.size → Fin w g0 g nn m (((((((((((w3.setCell ⟨g, 0, none⟩ (.int .i64 nn.kind)).setCell ⟨g, 1, none⟩ (.int .i64 nn.sess)).setCell ⟨g, 2, none⟩ (.int .i64 nn.num)).setCell ⟨g, 3, none⟩ (.int .i64 nn.job)).setCell ⟨g, 4, none⟩ (.int .i64 nn.badge)).setCell ⟨g, 5, none⟩ (.int .i64 nn.idx)).setCell ⟨g, 6, none⟩ (.int .i64 nn.cnt)).setCell ⟨g, 7, none⟩ (.int .i64 nn.code)).setCell ⟨g, 8, none⟩ (.int .u64 nn.bits)).setCell ⟨g, 9, none⟩ (.string nn.text)).setCell ⟨g, 10, none⟩ (.string nn.prog)) := by
  rintro g rfl
  exact fin_stored hk (Cells.keep (Cells.drew ((Cells.new w2 26 _).alloc o)) hb) (Nat.le_refl _) ((((Below.refl _ _).alloc (Nat.le_refl _) _).alloc (by simp) o).drew.trans (hb.mono (by simp [go_sem]; omega)))
theorem fin_c {w w2 w3 : World} {nn m : Mg} {g0 : Nat} {o : Obj} (hk : Ms w2 g0 m ∧ Below w.heap.size w w2) (hb : Below ((w2.alloc o).alloc (.cells (Mg.none 0).cells 26)).drew.heap.size ((w2.alloc o).alloc (.cells (Mg.none 0).cells 26)).drew w3) : ∀ g, g = w2.heap.size + 1 → Fin w g0 g nn m (((((((((((w3.setCell ⟨g, 0, none⟩ (.int .i64 nn.kind)).setCell ⟨g, 1, none⟩ (.int .i64 nn.sess)).setCell ⟨g, 2, none⟩ (.int .i64 nn.num)).setCell ⟨g, 3, none⟩ (.int .i64 nn.job)).setCell ⟨g, 4, none⟩ (.int .i64 nn.badge)).setCell ⟨g, 5, none⟩ (.int .i64 nn.idx)).setCell ⟨g, 6, none⟩ (.int .i64 nn.cnt)).setCell ⟨g, 7, none⟩ (.int .i64 nn.code)).setCell ⟨g, 8, none⟩ (.int .u64 nn.bits)).setCell ⟨g, 9, none⟩ (.string nn.text)).setCell ⟨g, 10, none⟩ (.string nn.prog)) := by
  rintro g rfl
  exact fin_stored hk (Cells.keep (Cells.drew (Cells.newAt (w2.alloc o) 26 (Mg.none 0).cells (w2.heap.size + 1) (by simp))) hb) (Nat.le_succ _) ((((Below.refl _ _).alloc (Nat.le_refl _) _).alloc (by simp) _).drew.trans (hb.mono (by simp [go_sem]; omega)))
theorem spoil_ne (l : List UInt8) (K : Nat) (hK : K < l.length) (tv : Int) (h0 : 0 ≤ tv ∧ tv ≤ 255) (hc : ¬ (l[K].toNat : Int) = tv) : (str l).extract 0 K ++ strOfNums [tv] ++ (str l).extract (K + 1) (str l).size ≠ str l := by
  intro e
  have e2 := congrArg (fun b : ByteArray => b.data.toList[K]?) e
  simp only [str, strOfNums, ByteArray.data_append, ByteArray.data_extract, Array.toList_append, List.map_cons, List.map_nil] at e2
  rw [List.append_assoc, List.getElem?_append_right (by simp; omega), List.getElem?_append_left (by simp; omega)] at e2
  simp [Nat.min_eq_left (Nat.le_of_lt hK), List.getElem?_eq_getElem hK] at e2
  apply hc
  rw [← e2]
  simp
  omega

set_option maxHeartbeats 8000000 in
set_option maxRecDepth 100000 in
theorem walk (m : Mg) (at0 tv : Int) (w : World) (hfit : m.Fit) (hat : -9223372036854775808 ≤ at0 ∧ at0 ≤ 9223372036854775807) (hto : 0 ≤ tv ∧ tv ≤ 255) :
    Calls Try.prog 9 #[m.val, .int .i64 at0, .int .u8 tv] w fun e w' => e = .returned (.bool true) ∧ Below w.heap.size w w' := by
  obtain ⟨W, hW⟩ : ∃ W, W = w.alloc (.cells m.cells 26) := ⟨_, rfl⟩
  have hm : Ms W w.heap.size m := by rw [hW]; exact Cells.newAt _ _ _ _ rfl
  have hBW : Below w.heap.size w W := by rw [hW]; exact below_new0 _ _
  have HW := Lib.hid hW
  have HK0 := Lib.hid (And.intro hm hBW)
  clear hW hm hBW
  have h1 := fun wx => Encode_any m wx hfit
  have HA := Lib.hid awake_any
  obtain ⟨q0, q1, q2, q3, q4, q5, q6, q7, q8, q9, q10⟩ := HK0.out.1.all
  rw [HW.out] at q0 q1 q2 q3 q4 q5 q6 q7 q8 q9 q10
  by_cases h0 : m.check = 0
  · have hle := bytes_le hfit h0
    rw [h0, if_pos rfl] at h1
    have hsz : (str m.bytes).size = m.bytes.length := str_size _
    have HSZ := Lib.hid hsz
    have HL := Lib.hid (show ∀ b : ByteArray, b.size = m.bytes.length → b ≠ str m.bytes → ∃ (nn : Mg) (cc : Int), (∀ wx, Calls Try.prog 15 #[.string b] wx fun e w' => e = .returned (.tuple #[nn.val, .int .i64 cc]) ∧ Below wx.heap.size wx w') ∧ ((nn = Mg.none 0 ∧ cc = 72) ∨ (cc = 0 ∧ nn ≠ m)) from fun b hb hne => by
      have hd := fun wx => Decode_any b wx (by omega)
      rcases decode_cases b with ⟨h, _⟩ | ⟨_, h⟩ | ⟨_, n, h⟩
      · omega
      · rw [h] at hd
        exact ⟨_, _, hd, .inl ⟨rfl, rfl⟩⟩
      · rw [h] at hd
        refine ⟨_, _, hd, .inr ⟨rfl, fun e => ?_⟩⟩
        subst e
        exact hne (decode_ok (by omega) h).2.2.1.symm)
    by_cases c0 : at0 < 0
    · have t1 : decide (at0 < 0) = true := decide_eq_true c0
      have H1 := Lib.hid h1
      clear h1 h0 hsz hle
      go_enter Try.func9, Try.ntmps9
      go_wp2_with fail
      rw [← HW.out]
      refine (H1.out _).mono ?_
      rintro x w1 ⟨rfl, hb1⟩
      have HK1 := Lib.hid (keep_ms HK0.out.1 HK0.out.2 hb1)
      clear hb1
      clear q0 q1 q2 q3 q4 q5 q6 q7 q8 q9 q10
      go_wp2_with fail
      refine (HA.out _).mono ?_
      rintro x w2 ⟨rfl, hb2⟩
      have HK2 := Lib.hid (keep_ms HK1.out.1 HK1.out.2 hb2)
      clear hb2
      go_wp2
      go_ret
      exact ⟨rfl, HK2.out.2⟩
    · have t1 : decide (at0 < 0) = false := decide_eq_false c0
      obtain ⟨K, rfl⟩ := Int.eq_ofNat_of_zero_le (by omega : 0 ≤ at0)
      by_cases c1 : ((str m.bytes).size : Int) ≤ K
      · have t2 : decide (((str m.bytes).size : Int) ≤ K) = true := decide_eq_true c1
        have t2n : decide ((str m.bytes).size ≤ K) = true := decide_eq_true (by omega)
        have H1 := Lib.hid h1
        clear h1 h0 hsz hle
        go_enter Try.func9, Try.ntmps9
        go_wp2_with fail
        rw [← HW.out]
        refine (H1.out _).mono ?_
        rintro x w1 ⟨rfl, hb1⟩
        have HK1 := Lib.hid (keep_ms HK0.out.1 HK0.out.2 hb1)
        clear hb1
        clear q0 q1 q2 q3 q4 q5 q6 q7 q8 q9 q10
        go_wp2_with fail
        refine (HA.out _).mono ?_
        rintro x w2 ⟨rfl, hb2⟩
        have HK2 := Lib.hid (keep_ms HK1.out.1 HK1.out.2 hb2)
        clear hb2
        go_wp2
        go_ret
        exact ⟨rfl, HK2.out.2⟩
      · have t2 : decide (((str m.bytes).size : Int) ≤ K) = false := decide_eq_false c1
        have t2n : decide ((str m.bytes).size ≤ K) = false := decide_eq_false (by omega)
        have hK : K < m.bytes.length := by omega
        obtain ⟨x, hx⟩ : ∃ x : UInt8, x = m.bytes[K] := ⟨_, rfl⟩
        have hix : ∀ wx : World, (Instr.index 9 (.string (str m.bytes)) (.int .i64 (K : Int))).run Try.prog wx = .ok (.int .u8 (x.toNat : Int)) wx := fun wx => by
          rw [hx]
          exact str_index wx Try.underlying9 m.bytes K hK
        have HX := Lib.hid hx
        clear hx
        by_cases c2 : (x.toNat : Int) = tv
        · have t3 : ((x.toNat : Int) == tv) = true := by rw [beq_iff_eq]; exact c2
          have H1 := Lib.hid h1
          clear h1 h0 hsz hle c2
          go_enter Try.func9, Try.ntmps9
          go_wp2_with fail
          rw [← HW.out]
          refine (H1.out _).mono ?_
          rintro x w1 ⟨rfl, hb1⟩
          have HK1 := Lib.hid (keep_ms HK0.out.1 HK0.out.2 hb1)
          clear hb1
          clear q0 q1 q2 q3 q4 q5 q6 q7 q8 q9 q10
          go_wp2_with fail
          refine (HA.out _).mono ?_
          rintro x w2 ⟨rfl, hb2⟩
          have HK2 := Lib.hid (keep_ms HK1.out.1 HK1.out.2 hb2)
          clear hb2
          go_wp2
          go_ret
          exact ⟨rfl, HK2.out.2⟩
        · have t3 : ((x.toNat : Int) == tv) = false := by rw [beq_eq_false_iff_ne]; exact c2
          have H1 := Lib.hid h1
          have b1 : (0 : Int) ≤ (K : Int) := by omega
          have b2 : (K : Int) ≤ ((str m.bytes).size : Int) := by omega
          have b3 : (K : Int) + 1 ≤ ((str m.bytes).size : Int) := by omega
          have hne0 := spoil_ne m.bytes K hK tv hto (by rw [← HX.out]; exact c2)
          clear h1 h0 hsz HX
          generalize str m.bytes = S at *
          obtain ⟨SL, hSL⟩ : ∃ SL, S.extract 0 K = SL := ⟨_, rfl⟩
          obtain ⟨SR, hSR⟩ : ∃ SR, S.extract (K + 1) S.size = SR := ⟨_, rfl⟩
          obtain ⟨SM, hSM⟩ : ∃ SM, strOfNums [tv] = SM := ⟨_, rfl⟩
          have hsl : SL.size = K := by rw [← hSL, ByteArray.size_extract]; omega
          have hsr : SR.size = S.size - (K + 1) := by rw [← hSR, ByteArray.size_extract]; omega
          have hsm : SM.size = 1 := by rw [← hSM]; rfl
          have hs3 : SL.size + SM.size + SR.size = S.size := by omega
          have n1 : ¬ 9223372036854775807 < SL.size + SM.size := by have := HSZ.out; omega
          have n2 : ¬ 9223372036854775807 < SL.size + SM.size + SR.size := by have := HSZ.out; omega
          have hne : SL ++ SM ++ SR ≠ S := by rw [← hSL, ← hSR, ← hSM]; exact hne0
          have hw1 : IntKind.i64.wrap ((K : Int) + 1) = (K : Int) + 1 := i64_of (by omega) (by omega)
          have hw2 : (0 : Int) ≤ (K : Int) + 1 := by omega
          have hw3 : ((K : Int) + 1).toNat = K + 1 := by omega
          obtain ⟨nn, cc, hdec, hend⟩ := HL.out (SL ++ SM ++ SR) (by simp only [ByteArray.size_append]; have := HSZ.out; omega) hne
          have hcv : ∀ (wx : World) (g : Nat), wx.cell? ⟨g, 0, none⟩ = some (.int .u8 tv) → (convert 39 9 (.slice (some ⟨g, 0, none⟩) 1 1)).run Try.prog wx = .ok (.string SM) wx := fun wx g hc => by
            rw [← hSM]
            exact run_convert_bytes_arg wx 39 5 Try.underlying39 Try.underlying5 g 0 1 1 [tv] rfl (fun i hi => by obtain rfl : i = 0 := (by omega); exact hc) 9 Try.underlying9
          have HDEC := Lib.hid hdec
          have HEND := Lib.hid hend
          have HNE := Lib.hid hne
          have HSM := Lib.hid hSM
          go_enter Try.func9, Try.ntmps9
          go_wp2_with fail
          rw [← HW.out]
          refine (H1.out _).mono ?_
          rintro x w1 ⟨rfl, hb1⟩
          have HK1 := Lib.hid (keep_ms HK0.out.1 HK0.out.2 hb1)
          clear hb1
          clear q0 q1 q2 q3 q4 q5 q6 q7 q8 q9 q10
          go_wp2_with fail
          refine (HA.out _).mono ?_
          rintro x w2 ⟨rfl, hb2⟩
          have HK2 := Lib.hid (keep_ms HK1.out.1 HK1.out.2 hb2)
          clear hb2
          clear hdec hend hne hSM hsl hsr hsm hs3 hle
          go_upto_region 6 with (fail)
          refine wp_region_noPanic ?_
          refine wp_region_held_drew (S := fun _ => True) (by kernel_rfl) trivial (fun hS => ?_)
          refine wpAnyH_take (i := 0) (v := ?_) rfl (by kernel_rfl) (by kernel_rfl) (by kernel_rfl) (fun _ _ _ h => h) (Or.inl ⟨by rfl, ?_⟩) hS ?_
          rotate_left
          · (intro wx hSx; (try dsimp only at hSx); go_simp; (try with_reducible rfl))
          simp only [List.getElem_toArray, List.getElem_cons_zero, Act.put, List.setIfInBounds_toArray, List.set_cons_zero, List.set_cons_succ]
          refine wpAnyH_take (i := 1) (v := ?_) rfl (by kernel_rfl) (by kernel_rfl) (by kernel_rfl) (fun _ _ _ h => h) (Or.inl ⟨by rfl, ?_⟩) hS ?_
          rotate_left
          · (intro wx hSx; (try dsimp only at hSx); go_simp; (try with_reducible rfl))
          simp only [List.getElem_toArray, List.getElem_cons_succ, List.getElem_cons_zero, Act.put, List.setIfInBounds_toArray, List.set_cons_zero, List.set_cons_succ]
          refine wpAnyH_take (i := 2) (v := ?_) rfl (by kernel_rfl) (by kernel_rfl) (by kernel_rfl) (fun _ _ _ h => h) (Or.inl ⟨by rfl, ?_⟩) hS ?_
          rotate_left
          · (intro wx hSx; (try dsimp only at hSx); go_simp; (try with_reducible rfl))
          simp only [List.getElem_toArray, List.getElem_cons_succ, List.getElem_cons_zero, Act.put, List.setIfInBounds_toArray, List.set_cons_zero, List.set_cons_succ]
          refine wpAnyH_take (i := 3) (v := ?_) rfl (by kernel_rfl) (by kernel_rfl) (by kernel_rfl) (fun _ _ _ h => h) (Or.inl ⟨by rfl, ?_⟩) hS ?_
          rotate_left
          · (intro wx hSx; (try dsimp only at hSx); go_simp; (try with_reducible rfl))
          simp only [List.getElem_toArray, List.getElem_cons_succ, List.getElem_cons_zero, Act.put, List.setIfInBounds_toArray, List.set_cons_zero, List.set_cons_succ]
          refine wpAnyH_take (i := 7) (v := ?_) rfl (by kernel_rfl) (by kernel_rfl) (by kernel_rfl) (fun _ _ _ h => h) (Or.inl ⟨by rfl, ?_⟩) hS ?_
          rotate_left
          · (intro wx hSx; (try dsimp only at hSx); go_simp; (try with_reducible rfl))
          simp only [List.getElem_toArray, List.getElem_cons_succ, List.getElem_cons_zero, Act.put, List.setIfInBounds_toArray, List.set_cons_zero, List.set_cons_succ]
          refine wpAnyH_take (i := 8) (v := ?_) rfl (by kernel_rfl) (by kernel_rfl) (by kernel_rfl) (fun _ _ _ h => h) (Or.inl ⟨by rfl, ?_⟩) hS ?_
          rotate_left
          · (intro wx hSx; (try dsimp only at hSx); go_simp; (try with_reducible rfl))
          simp only [List.getElem_toArray, List.getElem_cons_succ, List.getElem_cons_zero, Act.put, List.setIfInBounds_toArray, List.set_cons_zero, List.set_cons_succ]
          refine wpAnyH_take (i := 9) (v := ?_) rfl (by kernel_rfl) (by kernel_rfl) (by kernel_rfl) (fun _ _ _ h => h) (Or.inl ⟨by rfl, ?_⟩) hS ?_
          rotate_left
          · (intro wx hSx; (try dsimp only at hSx); go_simp; (try with_reducible rfl))
          simp only [List.getElem_toArray, List.getElem_cons_succ, List.getElem_cons_zero, Act.put, List.setIfInBounds_toArray, List.set_cons_zero, List.set_cons_succ]
          refine wpAnyH_take (i := 10) (v := ?_) rfl (by kernel_rfl) (by kernel_rfl) (by kernel_rfl) (fun _ _ _ h => h) (Or.inl ⟨by rfl, ?_⟩) hS ?_
          rotate_left
          · (intro wx hSx; (try dsimp only at hSx); go_simp; (try with_reducible rfl))
          simp only [List.getElem_toArray, List.getElem_cons_succ, List.getElem_cons_zero, Act.put, List.setIfInBounds_toArray, List.set_cons_zero, List.set_cons_succ]
          refine wpAnyH_ready (rs := [4, 16]) (by kernel_rfl) (by simp) ?_
          refine AllReadyH.cons rfl (fun K hK => ?_) (AllReadyH.cons rfl (fun K hK => ?_) AllReadyH.nil)
          · go_simp
            refine hK.out _ _ trivial (fun hS => ?_)
            clear hK K
            try simp only [Act.put, List.setIfInBounds_toArray, List.set_cons_zero, List.set_cons_succ]
            refine wpAnyH_ready (rs := [5, 16]) (by kernel_rfl) (by simp) ?_
            refine AllReadyH.cons rfl (fun K hK => ?_) (AllReadyH.cons rfl (fun K hK => ?_) AllReadyH.nil)
            · go_simp
              refine hK.out _ _ trivial (fun hS => ?_)
              clear hK K
              try simp only [Act.put, List.setIfInBounds_toArray, List.set_cons_zero, List.set_cons_succ]
              refine wpAnyH_take (i := 6) (v := ?_) rfl (by kernel_rfl) (by kernel_rfl) (by kernel_rfl) (fun _ _ _ h => h) (Or.inl ⟨by rfl, ?_⟩) hS ?_
              rotate_left
              · (intro wx hSx; (try dsimp only at hSx); go_simp; (try with_reducible rfl))
              simp only [List.getElem_toArray, List.getElem_cons_succ, List.getElem_cons_zero, Act.put, List.setIfInBounds_toArray, List.set_cons_zero, List.set_cons_succ]
              refine wpAnyH_take (i := 11) (v := ?_) rfl (by kernel_rfl) (by kernel_rfl) (by kernel_rfl) (fun _ _ _ h => h) (Or.inl ⟨by rfl, ?_⟩) hS ?_
              rotate_left
              · (intro wx hSx; (try dsimp only at hSx); go_simp; (try with_reducible rfl))
              simp only [List.getElem_toArray, List.getElem_cons_succ, List.getElem_cons_zero, Act.put, List.setIfInBounds_toArray, List.set_cons_zero, List.set_cons_succ]
              refine wpAnyH_ready (rs := [12, 16]) (by kernel_rfl) (by simp) ?_
              refine AllReadyH.cons rfl (fun K hK => ?_) (AllReadyH.cons rfl (fun K hK => ?_) AllReadyH.nil)
              · go_simp
                go_at_call 15
                refine (HDEC.out _).mono ?_
                rintro x w3 ⟨rfl, hb3⟩
                first | (refine none_elim (none_kept hb3) ?_; intro zf z0 z1 z2 z3 z4 z5 z6 z7 z8 z9 z10) | (refine none_elim (none_kept2 hb3) ?_; intro zf z0 z1 z2 z3 z4 z5 z6 z7 z8 z9 z10) | skip
                go_wp2_with fail
                refine hK.out _ _ trivial (fun hS => ?_)
                clear hK K
                try simp only [Act.put, List.setIfInBounds_toArray, List.set_cons_zero, List.set_cons_succ]
                refine wpAnyH_take (i := 13) (v := ?_) rfl (by kernel_rfl) (by kernel_rfl) (by kernel_rfl) (fun _ _ _ h => h) (Or.inl ⟨by rfl, ?_⟩) hS ?_
                rotate_left
                · (intro wx hSx; (try dsimp only at hSx); go_simp; (try with_reducible rfl))
                simp only [List.getElem_toArray, List.getElem_cons_succ, List.getElem_cons_zero, Act.put, List.setIfInBounds_toArray, List.set_cons_zero, List.set_cons_succ]
                refine wpAnyH_take (i := 14) (v := ?_) rfl (by kernel_rfl) (by kernel_rfl) (by kernel_rfl) (fun _ _ _ h => h) (Or.inl ⟨by rfl, ?_⟩) hS ?_
                rotate_left
                · (intro wx hSx; (try dsimp only at hSx); go_simp; (try with_reducible rfl))
                simp only [List.getElem_toArray, List.getElem_cons_succ, List.getElem_cons_zero, Act.put, List.setIfInBounds_toArray, List.set_cons_zero, List.set_cons_succ]
                refine wpAnyH_take (i := 15) (v := ?_) rfl (by kernel_rfl) (by kernel_rfl) (by kernel_rfl) (fun _ _ _ h => h) (Or.inl ⟨by rfl, ?_⟩) hS ?_
                rotate_left
                · (intro wx hSx; (try dsimp only at hSx); go_simp; (try with_reducible rfl))
                simp only [List.getElem_toArray, List.getElem_cons_succ, List.getElem_cons_zero, Act.put, List.setIfInBounds_toArray, List.set_cons_zero, List.set_cons_succ]
                refine wpAnyH_ready (rs := [16]) (by kernel_rfl) (by simp) ?_
                refine AllReadyH.cons rfl (fun K hK => ?_) AllReadyH.nil
                go_simp
                refine hK.out _ _ trivial (fun hS => ?_)
                clear hK K
                try simp only [Act.put, List.setIfInBounds_toArray, List.set_cons_zero, List.set_cons_succ]
                refine wpAnyH_ready (rs := [17]) (by kernel_rfl) (by simp) ?_
                refine AllReadyH.cons rfl (fun K hK => ?_) AllReadyH.nil
                go_simp
                refine hK.out _ _ trivial (fun hS => ?_)
                clear hK K
                try simp only [Act.put, List.setIfInBounds_toArray, List.set_cons_zero, List.set_cons_succ]
                refine wpAnyH_take (i := 18) (v := ?_) rfl (by kernel_rfl) (by kernel_rfl) (by kernel_rfl) (fun _ _ _ h => h) (Or.inl ⟨by rfl, ?_⟩) hS ?_
                rotate_left
                · (intro wx hSx; (try dsimp only at hSx); go_simp; (try with_reducible rfl))
                simp only [List.getElem_toArray, List.getElem_cons_succ, List.getElem_cons_zero, Act.put, List.setIfInBounds_toArray, List.set_cons_zero, List.set_cons_succ]
                refine wpAnyH_done (by kernel_rfl) ?_ _
                refine NoPanic.normal ?_
                first
                  | have hF := fin_b (nn := nn) HK2.out hb3 _ rfl
                  | have hF := fin_c (nn := nn) HK2.out hb3 _ rfl
                  | have hF := fin_a (nn := nn) HK2.out hb3
                refine gen_end hF ?_
                rintro Wf ⟨hN, hM, hB⟩
                have HBF := Lib.hid hB
                obtain ⟨q0, q1, q2, q3, q4, q5, q6, q7, q8, q9, q10⟩ := hM.all
                clear hM hB hb3 hF HDEC
                rcases HEND.out with ⟨rfl, rfl⟩ | ⟨rfl, hnm⟩
                · refine none_elim (none_all hN) ?_
                  intro zf z0 z1 z2 z3 z4 z5 z6 z7 z8 z9 z10
                  clear hN
                  go_wp2
                  go_ret
                  exact ⟨rfl, HBF.out⟩
                · obtain ⟨s0, s1, s2, s3, s4, s5, s6, s7, s8, s9, s10⟩ := hN.all
                  have hq1 : ∀ wx, (binOp .neq 26 nn.val m.val).run Try.prog wx = .ok (.bool (!decide (nn = m))) wx := fun wx => msg_neq nn m wx
                  rw [decide_eq_false hnm] at hq1
                  clear hN
                  go_wp2
                  go_ret
                  exact ⟨rfl, HBF.out⟩
              · go_simp
                refine hK.out _ _ trivial (fun hS => ?_)
                clear hK K
                try simp only [Act.put, List.setIfInBounds_toArray, List.set_cons_zero, List.set_cons_succ]
                refine wpAnyH_ready (rs := [12]) (by kernel_rfl) (by simp) ?_
                refine AllReadyH.cons rfl (fun K hK => ?_) AllReadyH.nil
                go_simp
                go_at_call 15
                refine (HDEC.out _).mono ?_
                rintro x w3 ⟨rfl, hb3⟩
                first | (refine none_elim (none_kept hb3) ?_; intro zf z0 z1 z2 z3 z4 z5 z6 z7 z8 z9 z10) | (refine none_elim (none_kept2 hb3) ?_; intro zf z0 z1 z2 z3 z4 z5 z6 z7 z8 z9 z10) | skip
                go_wp2_with fail
                refine hK.out _ _ trivial (fun hS => ?_)
                clear hK K
                try simp only [Act.put, List.setIfInBounds_toArray, List.set_cons_zero, List.set_cons_succ]
                refine wpAnyH_take (i := 13) (v := ?_) rfl (by kernel_rfl) (by kernel_rfl) (by kernel_rfl) (fun _ _ _ h => h) (Or.inl ⟨by rfl, ?_⟩) hS ?_
                rotate_left
                · (intro wx hSx; (try dsimp only at hSx); go_simp; (try with_reducible rfl))
                simp only [List.getElem_toArray, List.getElem_cons_succ, List.getElem_cons_zero, Act.put, List.setIfInBounds_toArray, List.set_cons_zero, List.set_cons_succ]
                refine wpAnyH_take (i := 14) (v := ?_) rfl (by kernel_rfl) (by kernel_rfl) (by kernel_rfl) (fun _ _ _ h => h) (Or.inl ⟨by rfl, ?_⟩) hS ?_
                rotate_left
                · (intro wx hSx; (try dsimp only at hSx); go_simp; (try with_reducible rfl))
                simp only [List.getElem_toArray, List.getElem_cons_succ, List.getElem_cons_zero, Act.put, List.setIfInBounds_toArray, List.set_cons_zero, List.set_cons_succ]
                refine wpAnyH_take (i := 15) (v := ?_) rfl (by kernel_rfl) (by kernel_rfl) (by kernel_rfl) (fun _ _ _ h => h) (Or.inl ⟨by rfl, ?_⟩) hS ?_
                rotate_left
                · (intro wx hSx; (try dsimp only at hSx); go_simp; (try with_reducible rfl))
                simp only [List.getElem_toArray, List.getElem_cons_succ, List.getElem_cons_zero, Act.put, List.setIfInBounds_toArray, List.set_cons_zero, List.set_cons_succ]
                refine wpAnyH_ready (rs := [17]) (by kernel_rfl) (by simp) ?_
                refine AllReadyH.cons rfl (fun K hK => ?_) AllReadyH.nil
                go_simp
                refine hK.out _ _ trivial (fun hS => ?_)
                clear hK K
                try simp only [Act.put, List.setIfInBounds_toArray, List.set_cons_zero, List.set_cons_succ]
                refine wpAnyH_take (i := 18) (v := ?_) rfl (by kernel_rfl) (by kernel_rfl) (by kernel_rfl) (fun _ _ _ h => h) (Or.inl ⟨by rfl, ?_⟩) hS ?_
                rotate_left
                · (intro wx hSx; (try dsimp only at hSx); go_simp; (try with_reducible rfl))
                simp only [List.getElem_toArray, List.getElem_cons_succ, List.getElem_cons_zero, Act.put, List.setIfInBounds_toArray, List.set_cons_zero, List.set_cons_succ]
                refine wpAnyH_done (by kernel_rfl) ?_ _
                refine NoPanic.normal ?_
                first
                  | have hF := fin_b (nn := nn) HK2.out hb3 _ rfl
                  | have hF := fin_c (nn := nn) HK2.out hb3 _ rfl
                  | have hF := fin_a (nn := nn) HK2.out hb3
                refine gen_end hF ?_
                rintro Wf ⟨hN, hM, hB⟩
                have HBF := Lib.hid hB
                obtain ⟨q0, q1, q2, q3, q4, q5, q6, q7, q8, q9, q10⟩ := hM.all
                clear hM hB hb3 hF HDEC
                rcases HEND.out with ⟨rfl, rfl⟩ | ⟨rfl, hnm⟩
                · refine none_elim (none_all hN) ?_
                  intro zf z0 z1 z2 z3 z4 z5 z6 z7 z8 z9 z10
                  clear hN
                  go_wp2
                  go_ret
                  exact ⟨rfl, HBF.out⟩
                · obtain ⟨s0, s1, s2, s3, s4, s5, s6, s7, s8, s9, s10⟩ := hN.all
                  have hq1 : ∀ wx, (binOp .neq 26 nn.val m.val).run Try.prog wx = .ok (.bool (!decide (nn = m))) wx := fun wx => msg_neq nn m wx
                  rw [decide_eq_false hnm] at hq1
                  clear hN
                  go_wp2
                  go_ret
                  exact ⟨rfl, HBF.out⟩
            · go_simp
              refine hK.out _ _ trivial (fun hS => ?_)
              clear hK K
              try simp only [Act.put, List.setIfInBounds_toArray, List.set_cons_zero, List.set_cons_succ]
              refine wpAnyH_ready (rs := [5]) (by kernel_rfl) (by simp) ?_
              refine AllReadyH.cons rfl (fun K hK => ?_) AllReadyH.nil
              go_simp
              refine hK.out _ _ trivial (fun hS => ?_)
              clear hK K
              try simp only [Act.put, List.setIfInBounds_toArray, List.set_cons_zero, List.set_cons_succ]
              refine wpAnyH_take (i := 6) (v := ?_) rfl (by kernel_rfl) (by kernel_rfl) (by kernel_rfl) (fun _ _ _ h => h) (Or.inl ⟨by rfl, ?_⟩) hS ?_
              rotate_left
              · (intro wx hSx; (try dsimp only at hSx); go_simp; (try with_reducible rfl))
              simp only [List.getElem_toArray, List.getElem_cons_succ, List.getElem_cons_zero, Act.put, List.setIfInBounds_toArray, List.set_cons_zero, List.set_cons_succ]
              refine wpAnyH_take (i := 11) (v := ?_) rfl (by kernel_rfl) (by kernel_rfl) (by kernel_rfl) (fun _ _ _ h => h) (Or.inl ⟨by rfl, ?_⟩) hS ?_
              rotate_left
              · (intro wx hSx; (try dsimp only at hSx); go_simp; (try with_reducible rfl))
              simp only [List.getElem_toArray, List.getElem_cons_succ, List.getElem_cons_zero, Act.put, List.setIfInBounds_toArray, List.set_cons_zero, List.set_cons_succ]
              refine wpAnyH_ready (rs := [12]) (by kernel_rfl) (by simp) ?_
              refine AllReadyH.cons rfl (fun K hK => ?_) AllReadyH.nil
              go_simp
              go_at_call 15
              refine (HDEC.out _).mono ?_
              rintro x w3 ⟨rfl, hb3⟩
              first | (refine none_elim (none_kept hb3) ?_; intro zf z0 z1 z2 z3 z4 z5 z6 z7 z8 z9 z10) | (refine none_elim (none_kept2 hb3) ?_; intro zf z0 z1 z2 z3 z4 z5 z6 z7 z8 z9 z10) | skip
              go_wp2_with fail
              refine hK.out _ _ trivial (fun hS => ?_)
              clear hK K
              try simp only [Act.put, List.setIfInBounds_toArray, List.set_cons_zero, List.set_cons_succ]
              refine wpAnyH_take (i := 13) (v := ?_) rfl (by kernel_rfl) (by kernel_rfl) (by kernel_rfl) (fun _ _ _ h => h) (Or.inl ⟨by rfl, ?_⟩) hS ?_
              rotate_left
              · (intro wx hSx; (try dsimp only at hSx); go_simp; (try with_reducible rfl))
              simp only [List.getElem_toArray, List.getElem_cons_succ, List.getElem_cons_zero, Act.put, List.setIfInBounds_toArray, List.set_cons_zero, List.set_cons_succ]
              refine wpAnyH_take (i := 14) (v := ?_) rfl (by kernel_rfl) (by kernel_rfl) (by kernel_rfl) (fun _ _ _ h => h) (Or.inl ⟨by rfl, ?_⟩) hS ?_
              rotate_left
              · (intro wx hSx; (try dsimp only at hSx); go_simp; (try with_reducible rfl))
              simp only [List.getElem_toArray, List.getElem_cons_succ, List.getElem_cons_zero, Act.put, List.setIfInBounds_toArray, List.set_cons_zero, List.set_cons_succ]
              refine wpAnyH_take (i := 15) (v := ?_) rfl (by kernel_rfl) (by kernel_rfl) (by kernel_rfl) (fun _ _ _ h => h) (Or.inl ⟨by rfl, ?_⟩) hS ?_
              rotate_left
              · (intro wx hSx; (try dsimp only at hSx); go_simp; (try with_reducible rfl))
              simp only [List.getElem_toArray, List.getElem_cons_succ, List.getElem_cons_zero, Act.put, List.setIfInBounds_toArray, List.set_cons_zero, List.set_cons_succ]
              refine wpAnyH_ready (rs := [17]) (by kernel_rfl) (by simp) ?_
              refine AllReadyH.cons rfl (fun K hK => ?_) AllReadyH.nil
              go_simp
              refine hK.out _ _ trivial (fun hS => ?_)
              clear hK K
              try simp only [Act.put, List.setIfInBounds_toArray, List.set_cons_zero, List.set_cons_succ]
              refine wpAnyH_take (i := 18) (v := ?_) rfl (by kernel_rfl) (by kernel_rfl) (by kernel_rfl) (fun _ _ _ h => h) (Or.inl ⟨by rfl, ?_⟩) hS ?_
              rotate_left
              · (intro wx hSx; (try dsimp only at hSx); go_simp; (try with_reducible rfl))
              simp only [List.getElem_toArray, List.getElem_cons_succ, List.getElem_cons_zero, Act.put, List.setIfInBounds_toArray, List.set_cons_zero, List.set_cons_succ]
              refine wpAnyH_done (by kernel_rfl) ?_ _
              refine NoPanic.normal ?_
              first
                | have hF := fin_b (nn := nn) HK2.out hb3 _ rfl
                | have hF := fin_c (nn := nn) HK2.out hb3 _ rfl
                | have hF := fin_a (nn := nn) HK2.out hb3
              refine gen_end hF ?_
              rintro Wf ⟨hN, hM, hB⟩
              have HBF := Lib.hid hB
              obtain ⟨q0, q1, q2, q3, q4, q5, q6, q7, q8, q9, q10⟩ := hM.all
              clear hM hB hb3 hF HDEC
              rcases HEND.out with ⟨rfl, rfl⟩ | ⟨rfl, hnm⟩
              · refine none_elim (none_all hN) ?_
                intro zf z0 z1 z2 z3 z4 z5 z6 z7 z8 z9 z10
                clear hN
                go_wp2
                go_ret
                exact ⟨rfl, HBF.out⟩
              · obtain ⟨s0, s1, s2, s3, s4, s5, s6, s7, s8, s9, s10⟩ := hN.all
                have hq1 : ∀ wx, (binOp .neq 26 nn.val m.val).run Try.prog wx = .ok (.bool (!decide (nn = m))) wx := fun wx => msg_neq nn m wx
                rw [decide_eq_false hnm] at hq1
                clear hN
                go_wp2
                go_ret
                exact ⟨rfl, HBF.out⟩
          · go_simp
            refine hK.out _ _ trivial (fun hS => ?_)
            clear hK K
            try simp only [Act.put, List.setIfInBounds_toArray, List.set_cons_zero, List.set_cons_succ]
            refine wpAnyH_ready (rs := [4]) (by kernel_rfl) (by simp) ?_
            refine AllReadyH.cons rfl (fun K hK => ?_) AllReadyH.nil
            go_simp
            refine hK.out _ _ trivial (fun hS => ?_)
            clear hK K
            try simp only [Act.put, List.setIfInBounds_toArray, List.set_cons_zero, List.set_cons_succ]
            refine wpAnyH_ready (rs := [5]) (by kernel_rfl) (by simp) ?_
            refine AllReadyH.cons rfl (fun K hK => ?_) AllReadyH.nil
            go_simp
            refine hK.out _ _ trivial (fun hS => ?_)
            clear hK K
            try simp only [Act.put, List.setIfInBounds_toArray, List.set_cons_zero, List.set_cons_succ]
            refine wpAnyH_take (i := 6) (v := ?_) rfl (by kernel_rfl) (by kernel_rfl) (by kernel_rfl) (fun _ _ _ h => h) (Or.inl ⟨by rfl, ?_⟩) hS ?_
            rotate_left
            · (intro wx hSx; (try dsimp only at hSx); go_simp; (try with_reducible rfl))
            simp only [List.getElem_toArray, List.getElem_cons_succ, List.getElem_cons_zero, Act.put, List.setIfInBounds_toArray, List.set_cons_zero, List.set_cons_succ]
            refine wpAnyH_take (i := 11) (v := ?_) rfl (by kernel_rfl) (by kernel_rfl) (by kernel_rfl) (fun _ _ _ h => h) (Or.inl ⟨by rfl, ?_⟩) hS ?_
            rotate_left
            · (intro wx hSx; (try dsimp only at hSx); go_simp; (try with_reducible rfl))
            simp only [List.getElem_toArray, List.getElem_cons_succ, List.getElem_cons_zero, Act.put, List.setIfInBounds_toArray, List.set_cons_zero, List.set_cons_succ]
            refine wpAnyH_ready (rs := [12]) (by kernel_rfl) (by simp) ?_
            refine AllReadyH.cons rfl (fun K hK => ?_) AllReadyH.nil
            go_simp
            go_at_call 15
            refine (HDEC.out _).mono ?_
            rintro x w3 ⟨rfl, hb3⟩
            first | (refine none_elim (none_kept hb3) ?_; intro zf z0 z1 z2 z3 z4 z5 z6 z7 z8 z9 z10) | (refine none_elim (none_kept2 hb3) ?_; intro zf z0 z1 z2 z3 z4 z5 z6 z7 z8 z9 z10) | skip
            go_wp2_with fail
            refine hK.out _ _ trivial (fun hS => ?_)
            clear hK K
            try simp only [Act.put, List.setIfInBounds_toArray, List.set_cons_zero, List.set_cons_succ]
            refine wpAnyH_take (i := 13) (v := ?_) rfl (by kernel_rfl) (by kernel_rfl) (by kernel_rfl) (fun _ _ _ h => h) (Or.inl ⟨by rfl, ?_⟩) hS ?_
            rotate_left
            · (intro wx hSx; (try dsimp only at hSx); go_simp; (try with_reducible rfl))
            simp only [List.getElem_toArray, List.getElem_cons_succ, List.getElem_cons_zero, Act.put, List.setIfInBounds_toArray, List.set_cons_zero, List.set_cons_succ]
            refine wpAnyH_take (i := 14) (v := ?_) rfl (by kernel_rfl) (by kernel_rfl) (by kernel_rfl) (fun _ _ _ h => h) (Or.inl ⟨by rfl, ?_⟩) hS ?_
            rotate_left
            · (intro wx hSx; (try dsimp only at hSx); go_simp; (try with_reducible rfl))
            simp only [List.getElem_toArray, List.getElem_cons_succ, List.getElem_cons_zero, Act.put, List.setIfInBounds_toArray, List.set_cons_zero, List.set_cons_succ]
            refine wpAnyH_take (i := 15) (v := ?_) rfl (by kernel_rfl) (by kernel_rfl) (by kernel_rfl) (fun _ _ _ h => h) (Or.inl ⟨by rfl, ?_⟩) hS ?_
            rotate_left
            · (intro wx hSx; (try dsimp only at hSx); go_simp; (try with_reducible rfl))
            simp only [List.getElem_toArray, List.getElem_cons_succ, List.getElem_cons_zero, Act.put, List.setIfInBounds_toArray, List.set_cons_zero, List.set_cons_succ]
            refine wpAnyH_ready (rs := [17]) (by kernel_rfl) (by simp) ?_
            refine AllReadyH.cons rfl (fun K hK => ?_) AllReadyH.nil
            go_simp
            refine hK.out _ _ trivial (fun hS => ?_)
            clear hK K
            try simp only [Act.put, List.setIfInBounds_toArray, List.set_cons_zero, List.set_cons_succ]
            refine wpAnyH_take (i := 18) (v := ?_) rfl (by kernel_rfl) (by kernel_rfl) (by kernel_rfl) (fun _ _ _ h => h) (Or.inl ⟨by rfl, ?_⟩) hS ?_
            rotate_left
            · (intro wx hSx; (try dsimp only at hSx); go_simp; (try with_reducible rfl))
            simp only [List.getElem_toArray, List.getElem_cons_succ, List.getElem_cons_zero, Act.put, List.setIfInBounds_toArray, List.set_cons_zero, List.set_cons_succ]
            refine wpAnyH_done (by kernel_rfl) ?_ _
            refine NoPanic.normal ?_
            first
              | have hF := fin_b (nn := nn) HK2.out hb3 _ rfl
              | have hF := fin_c (nn := nn) HK2.out hb3 _ rfl
              | have hF := fin_a (nn := nn) HK2.out hb3
            refine gen_end hF ?_
            rintro Wf ⟨hN, hM, hB⟩
            have HBF := Lib.hid hB
            obtain ⟨q0, q1, q2, q3, q4, q5, q6, q7, q8, q9, q10⟩ := hM.all
            clear hM hB hb3 hF HDEC
            rcases HEND.out with ⟨rfl, rfl⟩ | ⟨rfl, hnm⟩
            · refine none_elim (none_all hN) ?_
              intro zf z0 z1 z2 z3 z4 z5 z6 z7 z8 z9 z10
              clear hN
              go_wp2
              go_ret
              exact ⟨rfl, HBF.out⟩
            · obtain ⟨s0, s1, s2, s3, s4, s5, s6, s7, s8, s9, s10⟩ := hN.all
              have hq1 : ∀ wx, (binOp .neq 26 nn.val m.val).run Try.prog wx = .ok (.bool (!decide (nn = m))) wx := fun wx => msg_neq nn m wx
              rw [decide_eq_false hnm] at hq1
              clear hN
              go_wp2
              go_ret
              exact ⟨rfl, HBF.out⟩
  · rw [if_neg h0] at h1
    have t0 : (m.check != 0) = true := by rw [bne_iff_ne]; exact h0
    have H1 := Lib.hid h1
    clear h1 h0
    go_enter Try.func9, Try.ntmps9
    go_wp2_with fail
    rw [← HW.out]
    refine (H1.out _).mono ?_
    rintro x w1 ⟨rfl, hb1⟩
    have HK1 := Lib.hid (keep_ms HK0.out.1 HK0.out.2 hb1)
    clear hb1
    clear q0 q1 q2 q3 q4 q5 q6 q7 q8 q9 q10
    go_wp2_with fail
    refine (HA.out _).mono ?_
    rintro x w2 ⟨rfl, hb2⟩
    have HK2 := Lib.hid (keep_ms HK1.out.1 HK1.out.2 hb2)
    clear hb2
    go_wp2
    go_ret
    exact ⟨rfl, HK2.out.2⟩

-- LIFT
set_option maxRecDepth 100000 in
theorem contract (H : Type) (enc : TypeId × Value → H) (W : World) (base : Nat) (args : Array Value) (ds gs : List (DataW H)) (before : List MemPlace)
    (hval : ∀ (j : Nat) t v, Try.f9.params[j]? = some t → args[j]? = some v → Value.okWide Try.prog W .any base t v)
    (hW : DataW.Whole enc Try.prog Try.f9.params.toList Rows.wireSpoiltSpec.vars false W args.toList ds gs before) (hk : Rows.uptoSmall H (ds ++ gs) = true) :
    Calls Try.prog 9 args W fun e W' => ∃ v, e = .returned v ∧ Rows.wireSpoiltSpec.post enc Try.prog Try.f9 false true false false W args v W' := by
  have hts : Try.f9.params.toList.all (fun t => Try.prog.readableRec t && decide (t < Try.prog.types.size)) = true := by kernel_rfl
  have hW' := hW
  obtain ⟨p, q, hA0, hV, rfl, hfz, hnd⟩ := hW
  have hA : DataW.TrodAll enc Try.prog W 0 (fun _ => true) true Try.f9.params.toList args.toList ds p := hA0
  rw [Try.params9] at hA hval
  obtain ⟨v0, vs0, d0, ds0, p0, q0, hargs, rfl, rfl, h0, r0⟩ := trodAll_cons hA
  obtain ⟨v1, vs1, d1, ds1, p1, q1, rfl, rfl, rfl, h1, r1⟩ := trodAll_cons r0
  obtain ⟨v2, vs2, d2, ds2, p2, q2, rfl, rfl, rfl, h2, r2⟩ := trodAll_cons r1
  obtain ⟨rfl, rfl, rfl⟩ := trodAll_nil r2
  obtain rfl : args = #[v0, v1, v2] := by cases args; simp_all
  obtain ⟨rfl, rfl⟩ := trodVars_none hV
  have hfn : Rows.wireSpoiltSpec.fn H ([d0, d1, d2] ++ []) = { results := [.lit (.bool true)], args := [d0, d1, d2] } := rfl
  have hfin := fun W' (hbel : Below W.heap.size W W') => law_post (f := Try.f9) (s := Rows.wireSpoiltSpec) 4 Try.laid hts rfl Try.underlying4 rfl hfn hW' hbel
  clear hA0 hts hfn
  obtain ⟨a1, rfl, rfl, rfl, w1⟩ := open_int Try.underlying3 (hval 1 3 v1 rfl rfl) h1
  obtain ⟨a2, rfl, rfl, rfl, w2⟩ := open_int Try.underlying5 (hval 2 5 v2 rfl rfl) h2
  simp only [List.append_nil] at hk
  obtain ⟨m0, rfl, fit0⟩ := open_msg (hval 0 26 v0 rfl rfl) h0 (bulk_mem hk _ (by simp))
  have x1 : -9223372036854775808 ≤ a1 ∧ a1 ≤ 9223372036854775807 := by simpa [Lit.wf, IntKind.min, IntKind.max, IntKind.signed, IntKind.bits] using w1
  have x2 : 0 ≤ a2 ∧ a2 ≤ 255 := by simpa [Lit.wf, IntKind.min, IntKind.max, IntKind.signed, IntKind.bits] using w2
  exact (walk m0 a1 a2 W fit0 x1 x2).mono fun e W' ⟨he, hg⟩ => ⟨_, he, hfin W' hg⟩

set_option maxRecDepth 100000 in
theorem lifted (os : Os) (started : os.Started) (H : Type) (enc : TypeId × Value → H) (F : Stop.Interp) :
    ReturnsInHanded {} Try.checked os 9 .any ((Rows.OpenSpec.upto Rows.wireSpoiltSpec).pre6 enc Try.prog Try.f9 Rows.wireSpoiltUptoRow.domain false) (((Rows.OpenSpec.upto Rows.wireSpoiltSpec).at F).post enc Try.prog Try.f9 false true false false) := by
  refine returnsInHanded_of_cond (C := Try.checked) (s := Rows.OpenSpec.upto Rows.wireSpoiltSpec) (k := Rows.uptoSmall) rfl Try.own started (by kernel_rfl) Try.func9
    (OpenSpec.witness (enc := enc) (C := Try.checked) (s := Rows.OpenSpec.upto Rows.wireSpoiltSpec) (k := Rows.uptoSmall) rfl false ⟨#[], #[.agg #[.int .i64 0, .int .i64 0, .int .i64 0, .int .i64 0, .int .i64 0, .int .i64 0, .int .i64 0, .int .i64 0, .int .u64 0, .string .empty, .string .empty], .int .i64 0, .int .u8 0], []⟩ 8 (by kernel_rfl) (by kernel_rfl) (by kernel_rfl)
      (x := ([.agg [.lit (.int .i64 0), .lit (.int .i64 0), .lit (.int .i64 0), .lit (.int .i64 0), .lit (.int .i64 0), .lit (.int .i64 0), .lit (.int .i64 0), .agg [.lit (.int .i64 0), .lit (.int .u64 0)], .lit (.string []), .lit (.string [])], .lit (.int .i64 0), .lit (.int .u8 0)], [], [])) (by kernel_rfl) rfl (by kernel_rfl)) ?_
  intro W base args ds gs before hval hW _ hk _
  exact contract H enc W base args ds gs before hval hW hk

theorem proved : Rows.WireSpoiltUptoSaid :=
  OpenClaim.holds_of_cond 9 Try.f9 rfl rfl rfl rfl rfl rfl rfl ⟨rfl, rfl, rfl, rfl, rfl⟩ rfl rfl rfl rfl rfl (by kernel_rfl) Try.func9 (by kernel_rfl)
    (of_decide_eq_true (by kernel_rfl)) (by unfold Func.isWrapper; first | (rw [if_pos (by decide +kernel)]; kernel_rfl) | (rw [if_neg (by decide +kernel)]; exact ⟨rfl, rfl⟩))
    (fun os started H enc _ F => lifted os started H enc F)

end Go.Proofs.Ytcladlebmoefgaa.wireSpoilt
