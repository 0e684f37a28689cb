/- WireApart: unlike messages have unlike bytes, and the first byte is the kind. Condition: the arguments are together of bulk at most 1048576. -/
import Derived.Test.YtcladlebmoefgaaWAwake
namespace Go.Proofs.Ytcladlebmoefgaa.wireApart
open Go.RowKit Go.WideShapes Go.ChangeShapes Go.ChangeAt
open Go.ChangeMaps (open_string shut_string)

set_option maxHeartbeats 8000000 in
set_option maxRecDepth 100000 in
theorem walk (m n : Mg) (w : World) (hfit : m.Fit) (hfn : n.Fit) :
    Calls Try.prog 8 #[m.val, n.val] w fun e w' => e = .returned (.bool true) ∧ Below w.heap.size w w' := by
  obtain ⟨W, hW⟩ : ∃ W, W = (w.alloc (.cells m.cells 26)).alloc (.cells n.cells 26) := ⟨_, rfl⟩
  have hm : Ms W w.heap.size m := by rw [hW]; exact (Cells.newAt _ _ _ _ rfl).alloc _
  have hn : Ms W (w.heap.size + 1) n := by rw [hW]; exact Cells.newAt _ _ _ _ (by simp)
  have hBW : Below w.heap.size w W := by rw [hW]; exact (below_new0 _ _).alloc (below_new0 w (.cells m.cells 26)).size _
  have HW := Lib.hid hW
  have HK0 := Lib.hid (And.intro hm hBW)
  have HN0 := Lib.hid hn
  clear hW hm hBW hn
  have h1 := fun wx => Encode_any m wx hfit
  have h2 := fun wx => Encode_any n wx hfn
  have HA := Lib.hid awake_any
  obtain ⟨q0, q1, q2, q3, q4, q5, q6, q7, q8, q9, q10⟩ := HK0.out.1.all
  obtain ⟨s0, s1, s2, s3, s4, s5, s6, s7, s8, s9, s10⟩ := HN0.out.all
  rw [HW.out] at q0 q1 q2 q3 q4 q5 q6 q7 q8 q9 q10 s0 s1 s2 s3 s4 s5 s6 s7 s8 s9 s10
  have hne : ∀ x : Mg, x.check = 0 → ¬ (str x.bytes).toList = [] := fun x hx e => by
    obtain ⟨t, ht, _⟩ := bytes_first hx
    rw [ByteArray.toList_eq, str_data, ht] at e
    cases e
  by_cases h0 : m.check = 0
  · rw [h0, if_pos rfl] at h1
    have v1 := hne m h0
    have v2 : (str m.bytes).toList.isEmpty = false := by simpa using v1
    by_cases g0 : n.check = 0
    · rw [g0, if_pos rfl] at h2
      have u1 := hne n g0
      have hap := bytes_apart hfit hfn h0 g0
      obtain ⟨tl, hb1, hb2⟩ := bytes_first h0
      have hk : 1 ≤ m.kind ∧ m.kind ≤ 16 := ⟨(check_zero h0).1, (check_zero h0).2.1⟩
      have hpos : decide (0 < (str m.bytes).size) = true := decide_eq_true (by rw [str_size, hb1, List.length_cons]; omega)
      have hix : ∀ wx : World, (Instr.index 9 (.string (str m.bytes)) (.int .i64 0)).run Try.prog wx = .ok (.int .u8 m.kind) wx := fun wx => by
        have h := str_index (P := Try.prog) wx Try.underlying9 m.bytes 0 (by rw [hb1, List.length_cons]; omega)
        have e : m.bytes[0]'(by rw [hb1, List.length_cons]; omega) = UInt8.ofNat m.kind.toNat := by simp [hb1]
        rw [e, ← hb2] at h
        exact h
      have hq : ∀ wx, (binOp .eql 26 m.val n.val).run Try.prog wx = .ok (.bool (decide (m = n))) wx := fun wx => msg_eql m n wx
      have hk1 := hk.1
      have hk2 := hk.2
      have hcv : IntKind.i64.wrap m.kind = m.kind := i64_of (by omega) (by omega)
      by_cases hmn : m = n
      · have e1 : str m.bytes = str n.bytes := hap.mpr hmn
        have e2 : decide (m = n) = true := decide_eq_true hmn
        have e3 : ((str m.bytes).toList == (str n.bytes).toList) = true := by rw [e1]; simp
        rw [e2] at hq
        clear hap hmn e1 e2 hb1 hb2 h0 g0 hk hne u1 v1
        generalize str m.bytes = S1 at *
        generalize str n.bytes = S2 at *
        have H1 := Lib.hid h1
        have H2 := Lib.hid h2
        clear h1 h2
        go_enter Try.func8, Try.ntmps8
        go_wp2_with fail
        rw [← HW.out]
        refine (H1.out _).mono ?_
        rintro x w1 ⟨rfl, hb1⟩
        have HK1 := Lib.hid (keep_ms HK0.out.1 HK0.out.2 hb1)
        have HN1 := Lib.hid (show Ms w1 (w.heap.size + 1) n from Cells.keep HN0.out hb1)
        clear hb1
        clear q0 q1 q2 q3 q4 q5 q6 q7 q8 q9 q10
        clear s0 s1 s2 s3 s4 s5 s6 s7 s8 s9 s10
        obtain ⟨s0, s1, s2, s3, s4, s5, s6, s7, s8, s9, s10⟩ := HN1.out.all
        go_wp2_with fail
        refine (H2.out _).mono ?_
        rintro x w2 ⟨rfl, hb2⟩
        have HK2 := Lib.hid (keep_ms HK1.out.1 HK1.out.2 hb2)
        have HN2 := Lib.hid (show Ms w2 (w.heap.size + 1) n from Cells.keep HN1.out hb2)
        clear hb2
        clear s0 s1 s2 s3 s4 s5 s6 s7 s8 s9 s10
        go_wp2_with fail
        refine (HA.out _).mono ?_
        rintro x w3 ⟨rfl, hb3⟩
        have HK3 := Lib.hid (keep_ms HK2.out.1 HK2.out.2 hb3)
        have HN3 := Lib.hid (show Ms w3 (w.heap.size + 1) n from Cells.keep HN2.out hb3)
        clear hb3
        obtain ⟨q0, q1, q2, q3, q4, q5, q6, q7, q8, q9, q10⟩ := HK3.out.1.all
        obtain ⟨s0, s1, s2, s3, s4, s5, s6, s7, s8, s9, s10⟩ := HN3.out.all
        go_upto_region 7 with (fail)
        go_quiet (fail)
        go_wp2
        go_ret
        exact ⟨rfl, below_drewN HK3.out.2 _⟩
      · have e2 : decide (m = n) = false := decide_eq_false hmn
        have e3 : ((str m.bytes).toList == (str n.bytes).toList) = false := by
          rw [beq_eq_false_iff_ne]
          exact fun e => hmn (hap.mp (bytes_inj e))
        rw [e2] at hq
        clear hap hmn e2 hb1 hb2 h0 g0 hk hne u1 v1
        generalize str m.bytes = S1 at *
        generalize str n.bytes = S2 at *
        have H1 := Lib.hid h1
        have H2 := Lib.hid h2
        clear h1 h2
        go_enter Try.func8, Try.ntmps8
        go_wp2_with fail
        rw [← HW.out]
        refine (H1.out _).mono ?_
        rintro x w1 ⟨rfl, hb1⟩
        have HK1 := Lib.hid (keep_ms HK0.out.1 HK0.out.2 hb1)
        have HN1 := Lib.hid (show Ms w1 (w.heap.size + 1) n from Cells.keep HN0.out hb1)
        clear hb1
        clear q0 q1 q2 q3 q4 q5 q6 q7 q8 q9 q10
        clear s0 s1 s2 s3 s4 s5 s6 s7 s8 s9 s10
        obtain ⟨s0, s1, s2, s3, s4, s5, s6, s7, s8, s9, s10⟩ := HN1.out.all
        go_wp2_with fail
        refine (H2.out _).mono ?_
        rintro x w2 ⟨rfl, hb2⟩
        have HK2 := Lib.hid (keep_ms HK1.out.1 HK1.out.2 hb2)
        have HN2 := Lib.hid (show Ms w2 (w.heap.size + 1) n from Cells.keep HN1.out hb2)
        clear hb2
        clear s0 s1 s2 s3 s4 s5 s6 s7 s8 s9 s10
        go_wp2_with fail
        refine (HA.out _).mono ?_
        rintro x w3 ⟨rfl, hb3⟩
        have HK3 := Lib.hid (keep_ms HK2.out.1 HK2.out.2 hb3)
        have HN3 := Lib.hid (show Ms w3 (w.heap.size + 1) n from Cells.keep HN2.out hb3)
        clear hb3
        obtain ⟨q0, q1, q2, q3, q4, q5, q6, q7, q8, q9, q10⟩ := HK3.out.1.all
        obtain ⟨s0, s1, s2, s3, s4, s5, s6, s7, s8, s9, s10⟩ := HN3.out.all
        go_upto_region 7 with (fail)
        go_quiet (fail)
        go_wp2
        go_ret
        exact ⟨rfl, below_drewN HK3.out.2 _⟩
    · rw [if_neg g0] at h2
      have t1 : (n.check != 0) = true := by rw [bne_iff_ne]; exact g0
      generalize str m.bytes = S1 at *
      have H1 := Lib.hid h1
      have H2 := Lib.hid h2
      clear h1 h2 h0 g0 hne
      go_enter Try.func8, Try.ntmps8
      go_wp2_with fail
      rw [← HW.out]
      refine (H1.out _).mono ?_
      rintro x w1 ⟨rfl, hb1⟩
      have HK1 := Lib.hid (keep_ms HK0.out.1 HK0.out.2 hb1)
      have HN1 := Lib.hid (show Ms w1 (w.heap.size + 1) n from Cells.keep HN0.out hb1)
      clear hb1
      clear q0 q1 q2 q3 q4 q5 q6 q7 q8 q9 q10
      clear s0 s1 s2 s3 s4 s5 s6 s7 s8 s9 s10
      obtain ⟨s0, s1, s2, s3, s4, s5, s6, s7, s8, s9, s10⟩ := HN1.out.all
      go_wp2_with fail
      refine (H2.out _).mono ?_
      rintro x w2 ⟨rfl, hb2⟩
      have HK2 := Lib.hid (keep_ms HK1.out.1 HK1.out.2 hb2)
      have HN2 := Lib.hid (show Ms w2 (w.heap.size + 1) n from Cells.keep HN1.out hb2)
      clear hb2
      clear s0 s1 s2 s3 s4 s5 s6 s7 s8 s9 s10
      go_wp2_with fail
      refine (HA.out _).mono ?_
      rintro x w3 ⟨rfl, hb3⟩
      have HK3 := Lib.hid (keep_ms HK2.out.1 HK2.out.2 hb3)
      have HN3 := Lib.hid (show Ms w3 (w.heap.size + 1) n from Cells.keep HN2.out hb3)
      clear hb3
      go_wp2
      go_ret
      exact ⟨rfl, HK3.out.2⟩
  · rw [if_neg h0] at h1
    have t0 : (m.check != 0) = true := by rw [bne_iff_ne]; exact h0
    by_cases g0 : n.check = 0
    · rw [g0, if_pos rfl] at h2
      have v1 := hne n g0
      have v2 : (str n.bytes).toList.isEmpty = false := by simpa using v1
      generalize str n.bytes = S2 at *
      have H1 := Lib.hid h1
      have H2 := Lib.hid h2
      clear h1 h2 h0 g0 hne
      go_enter Try.func8, Try.ntmps8
      go_wp2_with fail
      rw [← HW.out]
      refine (H1.out _).mono ?_
      rintro x w1 ⟨rfl, hb1⟩
      have HK1 := Lib.hid (keep_ms HK0.out.1 HK0.out.2 hb1)
      have HN1 := Lib.hid (show Ms w1 (w.heap.size + 1) n from Cells.keep HN0.out hb1)
      clear hb1
      clear q0 q1 q2 q3 q4 q5 q6 q7 q8 q9 q10
      clear s0 s1 s2 s3 s4 s5 s6 s7 s8 s9 s10
      obtain ⟨s0, s1, s2, s3, s4, s5, s6, s7, s8, s9, s10⟩ := HN1.out.all
      go_wp2_with fail
      refine (H2.out _).mono ?_
      rintro x w2 ⟨rfl, hb2⟩
      have HK2 := Lib.hid (keep_ms HK1.out.1 HK1.out.2 hb2)
      have HN2 := Lib.hid (show Ms w2 (w.heap.size + 1) n from Cells.keep HN1.out hb2)
      clear hb2
      clear s0 s1 s2 s3 s4 s5 s6 s7 s8 s9 s10
      go_wp2_with fail
      refine (HA.out _).mono ?_
      rintro x w3 ⟨rfl, hb3⟩
      have HK3 := Lib.hid (keep_ms HK2.out.1 HK2.out.2 hb3)
      have HN3 := Lib.hid (show Ms w3 (w.heap.size + 1) n from Cells.keep HN2.out hb3)
      clear hb3
      go_wp2
      go_ret
      exact ⟨rfl, HK3.out.2⟩
    · rw [if_neg g0] at h2
      have t1 : (n.check != 0) = true := by rw [bne_iff_ne]; exact g0
      have H1 := Lib.hid h1
      have H2 := Lib.hid h2
      clear h1 h2 h0 g0 hne
      go_enter Try.func8, Try.ntmps8
      go_wp2_with fail
      rw [← HW.out]
      refine (H1.out _).mono ?_
      rintro x w1 ⟨rfl, hb1⟩
      have HK1 := Lib.hid (keep_ms HK0.out.1 HK0.out.2 hb1)
      have HN1 := Lib.hid (show Ms w1 (w.heap.size + 1) n from Cells.keep HN0.out hb1)
      clear hb1
      clear q0 q1 q2 q3 q4 q5 q6 q7 q8 q9 q10
      clear s0 s1 s2 s3 s4 s5 s6 s7 s8 s9 s10
      obtain ⟨s0, s1, s2, s3, s4, s5, s6, s7, s8, s9, s10⟩ := HN1.out.all
      go_wp2_with fail
      refine (H2.out _).mono ?_
      rintro x w2 ⟨rfl, hb2⟩
      have HK2 := Lib.hid (keep_ms HK1.out.1 HK1.out.2 hb2)
      have HN2 := Lib.hid (show Ms w2 (w.heap.size + 1) n from Cells.keep HN1.out hb2)
      clear hb2
      clear s0 s1 s2 s3 s4 s5 s6 s7 s8 s9 s10
      go_wp2_with fail
      refine (HA.out _).mono ?_
      rintro x w3 ⟨rfl, hb3⟩
      have HK3 := Lib.hid (keep_ms HK2.out.1 HK2.out.2 hb3)
      have HN3 := Lib.hid (show Ms w3 (w.heap.size + 1) n from Cells.keep HN2.out hb3)
      clear hb3
      go_wp2
      go_ret
      exact ⟨rfl, HK3.out.2⟩

-- LIFT
set_option maxRecDepth 100000 in
theorem contract (H : Type) (enc : TypeId × Value → H) (W : World) (base : Nat) (args : Array Value) (ds gs : List (DataW H)) (before : List MemPlace)
    (hval : ∀ (j : Nat) t v, Try.f8.params[j]? = some t → args[j]? = some v → Value.okWide Try.prog W .any base t v)
    (hW : DataW.Whole enc Try.prog Try.f8.params.toList Rows.wireApartSpec.vars false W args.toList ds gs before) (hk : Rows.uptoSmall H (ds ++ gs) = true) :
    Calls Try.prog 8 args W fun e W' => ∃ v, e = .returned v ∧ Rows.wireApartSpec.post enc Try.prog Try.f8 false true false false W args v W' := by
  have hts : Try.f8.params.toList.all (fun t => Try.prog.readableRec t && decide (t < Try.prog.types.size)) = true := by kernel_rfl
  have hW' := hW
  obtain ⟨p, q, hA0, hV, rfl, hfz, hnd⟩ := hW
  have hA : DataW.TrodAll enc Try.prog W 0 (fun _ => true) true Try.f8.params.toList args.toList ds p := hA0
  rw [Try.params8] at hA hval
  obtain ⟨v0, vs0, d0, ds0, p0, q0, hargs, rfl, rfl, h0, r0⟩ := trodAll_cons hA
  obtain ⟨v1, vs1, d1, ds1, p1, q1, rfl, rfl, rfl, h1, r1⟩ := trodAll_cons r0
  obtain ⟨rfl, rfl, rfl⟩ := trodAll_nil r1
  obtain rfl : args = #[v0, v1] := by cases args; simp_all
  obtain ⟨rfl, rfl⟩ := trodVars_none hV
  have hfn : Rows.wireApartSpec.fn H ([d0, d1] ++ []) = { results := [.lit (.bool true)], args := [d0, d1] } := rfl
  have hfin := fun W' (hbel : Below W.heap.size W W') => law_post (f := Try.f8) (s := Rows.wireApartSpec) 4 Try.laid hts rfl Try.underlying4 rfl hfn hW' hbel
  clear hA0 hts hfn
  simp only [List.append_nil] at hk
  obtain ⟨m0, rfl, fit0⟩ := open_msg (hval 0 26 v0 rfl rfl) h0 (bulk_mem hk _ (by simp))
  obtain ⟨m1, rfl, fit1⟩ := open_msg (hval 1 26 v1 rfl rfl) h1 (bulk_mem hk _ (by simp))
  exact (walk m0 m1 W fit0 fit1).mono fun e W' ⟨he, hg⟩ => ⟨_, he, hfin W' hg⟩

set_option maxRecDepth 100000 in
theorem lifted (os : Os) (started : os.Started) (H : Type) (enc : TypeId × Value → H) (F : Stop.Interp) :
    ReturnsInHanded {} Try.checked os 8 .any ((Rows.OpenSpec.upto Rows.wireApartSpec).pre6 enc Try.prog Try.f8 Rows.wireApartUptoRow.domain false) (((Rows.OpenSpec.upto Rows.wireApartSpec).at F).post enc Try.prog Try.f8 false true false false) := by
  refine returnsInHanded_of_cond (C := Try.checked) (s := Rows.OpenSpec.upto Rows.wireApartSpec) (k := Rows.uptoSmall) rfl Try.own started (by kernel_rfl) Try.func8
    (OpenSpec.witness (enc := enc) (C := Try.checked) (s := Rows.OpenSpec.upto Rows.wireApartSpec) (k := Rows.uptoSmall) rfl false ⟨#[], #[.agg #[.int .i64 0, .int .i64 0, .int .i64 0, .int .i64 0, .int .i64 0, .int .i64 0, .int .i64 0, .int .i64 0, .int .u64 0, .string .empty, .string .empty], .agg #[.int .i64 0, .int .i64 0, .int .i64 0, .int .i64 0, .int .i64 0, .int .i64 0, .int .i64 0, .int .i64 0, .int .u64 0, .string .empty, .string .empty]], []⟩ 8 (by kernel_rfl) (by kernel_rfl) (by kernel_rfl)
      (x := ([.agg [.lit (.int .i64 0), .lit (.int .i64 0), .lit (.int .i64 0), .lit (.int .i64 0), .lit (.int .i64 0), .lit (.int .i64 0), .lit (.int .i64 0), .agg [.lit (.int .i64 0), .lit (.int .u64 0)], .lit (.string []), .lit (.string [])], .agg [.lit (.int .i64 0), .lit (.int .i64 0), .lit (.int .i64 0), .lit (.int .i64 0), .lit (.int .i64 0), .lit (.int .i64 0), .lit (.int .i64 0), .agg [.lit (.int .i64 0), .lit (.int .u64 0)], .lit (.string []), .lit (.string [])]], [], [])) (by kernel_rfl) rfl (by kernel_rfl)) ?_
  intro W base args ds gs before hval hW _ hk _
  exact contract H enc W base args ds gs before hval hW hk

theorem proved : Rows.WireApartUptoSaid :=
  OpenClaim.holds_of_cond 8 Try.f8 rfl rfl rfl rfl rfl rfl rfl ⟨rfl, rfl, rfl, rfl, rfl⟩ rfl rfl rfl rfl rfl (by kernel_rfl) Try.func8 (by kernel_rfl)
    (of_decide_eq_true (by kernel_rfl)) (by unfold Func.isWrapper; first | (rw [if_pos (by decide +kernel)]; kernel_rfl) | (rw [if_neg (by decide +kernel)]; exact ⟨rfl, rfl⟩))
    (fun os started H enc _ F => lifted os started H enc F)

end Go.Proofs.Ytcladlebmoefgaa.wireApart
