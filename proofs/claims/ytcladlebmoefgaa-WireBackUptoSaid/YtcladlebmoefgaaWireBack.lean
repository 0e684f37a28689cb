/- WireBack: messages that may be are read as what they were; whatever is read may be, and is told byte by byte. Condition: the arguments are together of bulk at most 1048576. -/
import Derived.Test.YtcladlebmoefgaaWAwake
namespace Go.Proofs.Ytcladlebmoefgaa.wireBack
open Go.RowKit Go.WideShapes Go.ChangeShapes Go.ChangeAt
open Go.ChangeMaps (open_string shut_string)

theorem msg_neq (m n : Mg) (w : World) : (binOp .neq 26 m.val n.val).run Try.prog w = .ok (.bool (!decide (m = n))) w := by
  simp [go_sem]
  by_cases h : m = n
  · subst h
    simp
  · rw [decide_eq_false h]
    repeat' split
    all_goals first | rfl | skip
    exfalso
    apply h
    cases m
    cases n
    simp only at *
    simp only [Mg.mk.injEq]
    refine ⟨?_, ?_, ?_, ?_, ?_, ?_, ?_, ?_, ?_, bytes_inj ?_, bytes_inj ?_⟩ <;> assumption

set_option maxHeartbeats 8000000 in
set_option maxRecDepth 100000 in
theorem walk (m : Mg) (b : ByteArray) (w : World) (hfit : m.Fit) (hb : b.size < 1073741824) :
    Calls Try.prog 6 #[m.val, .string b] w fun e w' => e = .returned (.bool true) ∧ Below w.heap.size w w' := by
  obtain ⟨W, hW⟩ : ∃ W, W = w.alloc (.cells m.cells 26) := ⟨_, rfl⟩
  have hm : Ms W w.heap.size m := by rw [hW]; exact Cells.newAt _ _ _ _ rfl
  have hBW : Below w.heap.size w W := by rw [hW]; exact below_new0 _ _
  have HW := Lib.hid hW
  have HK0 := Lib.hid (And.intro hm hBW)
  clear hW hm hBW
  have h1 := fun wx => Encode_any m wx hfit
  have h2 := fun wx => Check_any m wx hfit
  have HA := Lib.hid awake_any
  obtain ⟨nn, cc, hdec, hcase⟩ : ∃ (nn : Mg) (cc : Int), decode b = (nn, cc) ∧ (cc ≠ 0 ∨ (cc = 0 ∧ nn.Fit ∧ nn.check = 0 ∧ str nn.bytes = b)) := by
    rcases decode_cases b with ⟨_, h⟩ | ⟨_, h⟩ | ⟨_, n, h⟩
    · exact ⟨_, _, h, .inl (by decide)⟩
    · exact ⟨_, _, h, .inl (by decide)⟩
    · have hk := decode_ok hb h
      exact ⟨_, _, h, .inr ⟨rfl, hk.1, hk.2.1, hk.2.2.1⟩⟩
  have hd := fun wx => Decode_any b wx hb
  rw [hdec] at hd
  have HD := Lib.hid hd
  clear hd hdec
  by_cases h0 : m.check = 0
  · have hle := bytes_le hfit h0
    have h3 := fun wx => Decode_any (str m.bytes) wx (by rw [str_size]; omega)
    rw [decode_bytes hfit h0] at h3
    rw [h0, if_pos rfl] at h1
    rw [h0] at h2
    have hsz : (str m.bytes).size ≤ 2048 := by rw [str_size]; exact hle
    generalize str m.bytes = S at h1 h3 hsz
    have t1 : decide ((2048 : Int) < (S.size : Int)) = false := decide_eq_false (by omega)
    have hne : ∀ wx, (binOp .neq 26 m.val m.val).run Try.prog wx = .ok (.bool false) wx := fun wx => by rw [msg_neq, decide_eq_true rfl]; rfl
    have H1 := Lib.hid h1
    have H2 := Lib.hid h2
    have H3 := Lib.hid h3
    clear h1 h2 h3 h0 hle hsz
    rcases hcase with hc | ⟨rfl, hnf, hn0, hnb⟩
    · have t2 : (cc != 0) = true := by rw [bne_iff_ne]; exact hc
      clear hc
      obtain ⟨q0, q1, q2, q3, q4, q5, q6, q7, q8, q9, q10⟩ := HK0.out.1.all
      rw [HW.out] at q0 q1 q2 q3 q4 q5 q6 q7 q8 q9 q10
      go_enter Try.func6, Try.ntmps6
      go_wp2_with fail
      rw [← HW.out]
      refine (H1.out _).mono ?_
      rintro x w1 ⟨rfl, hb1⟩
      have HK1 := Lib.hid (keep_ms HK0.out.1 HK0.out.2 hb1)
      clear hb1
      clear q0 q1 q2 q3 q4 q5 q6 q7 q8 q9 q10
      go_wp2_with fail
      refine (HA.out _).mono ?_
      rintro x w2 ⟨rfl, hb2⟩
      have HK2 := Lib.hid (keep_ms HK1.out.1 HK1.out.2 hb2)
      clear hb2
      obtain ⟨q0, q1, q2, q3, q4, q5, q6, q7, q8, q9, q10⟩ := HK2.out.1.all
      go_wp2_with fail
      refine (H2.out _).mono ?_
      rintro x w3 ⟨rfl, hb3⟩
      have HK3 := Lib.hid (keep_ms HK2.out.1 HK2.out.2 hb3)
      clear hb3
      clear q0 q1 q2 q3 q4 q5 q6 q7 q8 q9 q10
      go_wp2_with fail
      refine (H3.out _).mono ?_
      rintro x w4 ⟨rfl, hb4⟩
      have HK4 := Lib.hid (keep_ms HK3.out.1 HK3.out.2 hb4)
      clear hb4
      go_upto_region 6 with (fail)
      generalize hW4 : World.alloc w4 _ = W4
      have hn4 : Ms W4 w4.heap.size m := by rw [← hW4]; exact Cells.newAt _ _ _ _ rfl
      have HN4 := Lib.hid hn4
      have HK4 := Lib.hid (And.intro (show Ms W4 w.heap.size m by rw [← hW4]; exact HK4.out.1.alloc _) (show Below w.heap.size w W4 by rw [← hW4]; exact HK4.out.2.alloc HK4.out.2.size _))
      clear hW4 hn4
      obtain ⟨s0, s1, s2, s3, s4, s5, s6, s7, s8, s9, s10⟩ := HN4.out.all
      obtain ⟨q0, q1, q2, q3, q4, q5, q6, q7, q8, q9, q10⟩ := HK4.out.1.all
      go_upto_region 8 with (fail)
      clear q0 q1 q2 q3 q4 q5 q6 q7 q8 q9 q10 s0 s1 s2 s3 s4 s5 s6 s7 s8 s9 s10
      go_wp2_with fail
      refine (HD.out _).mono ?_
      rintro x w8 ⟨rfl, hb8⟩
      have HK8 := Lib.hid (keep_ms HK4.out.1 HK4.out.2 hb8)
      clear hb8
      go_upto_region 9 with (fail)
      generalize hW8 : World.alloc w8 _ = W8
      have hn8 : Ms W8 w8.heap.size nn := by rw [← hW8]; exact Cells.newAt _ _ _ _ rfl
      have HN8 := Lib.hid hn8
      have HK8 := Lib.hid (And.intro (show Ms W8 w.heap.size m by rw [← hW8]; exact HK8.out.1.alloc _) (show Below w.heap.size w W8 by rw [← hW8]; exact HK8.out.2.alloc HK8.out.2.size _))
      clear hW8 hn8
      go_wp2
      go_ret
      exact ⟨rfl, HK8.out.2⟩
    · have he := fun wx => Encode_any nn wx hnf
      rw [hn0, if_pos rfl, hnb] at he
      have hf := fun wx => Check_any nn wx hnf
      rw [hn0] at hf
      have HE := Lib.hid he
      have HF := Lib.hid hf
      clear he hf hnf hn0 hnb
      obtain ⟨q0, q1, q2, q3, q4, q5, q6, q7, q8, q9, q10⟩ := HK0.out.1.all
      rw [HW.out] at q0 q1 q2 q3 q4 q5 q6 q7 q8 q9 q10
      go_enter Try.func6, Try.ntmps6
      go_wp2_with fail
      rw [← HW.out]
      refine (H1.out _).mono ?_
      rintro x w1 ⟨rfl, hb1⟩
      have HK1 := Lib.hid (keep_ms HK0.out.1 HK0.out.2 hb1)
      clear hb1
      clear q0 q1 q2 q3 q4 q5 q6 q7 q8 q9 q10
      go_wp2_with fail
      refine (HA.out _).mono ?_
      rintro x w2 ⟨rfl, hb2⟩
      have HK2 := Lib.hid (keep_ms HK1.out.1 HK1.out.2 hb2)
      clear hb2
      obtain ⟨q0, q1, q2, q3, q4, q5, q6, q7, q8, q9, q10⟩ := HK2.out.1.all
      go_wp2_with fail
      refine (H2.out _).mono ?_
      rintro x w3 ⟨rfl, hb3⟩
      have HK3 := Lib.hid (keep_ms HK2.out.1 HK2.out.2 hb3)
      clear hb3
      clear q0 q1 q2 q3 q4 q5 q6 q7 q8 q9 q10
      go_wp2_with fail
      refine (H3.out _).mono ?_
      rintro x w4 ⟨rfl, hb4⟩
      have HK4 := Lib.hid (keep_ms HK3.out.1 HK3.out.2 hb4)
      clear hb4
      go_upto_region 6 with (fail)
      generalize hW4 : World.alloc w4 _ = W4
      have hn4 : Ms W4 w4.heap.size m := by rw [← hW4]; exact Cells.newAt _ _ _ _ rfl
      have HN4 := Lib.hid hn4
      have HK4 := Lib.hid (And.intro (show Ms W4 w.heap.size m by rw [← hW4]; exact HK4.out.1.alloc _) (show Below w.heap.size w W4 by rw [← hW4]; exact HK4.out.2.alloc HK4.out.2.size _))
      clear hW4 hn4
      obtain ⟨s0, s1, s2, s3, s4, s5, s6, s7, s8, s9, s10⟩ := HN4.out.all
      obtain ⟨q0, q1, q2, q3, q4, q5, q6, q7, q8, q9, q10⟩ := HK4.out.1.all
      go_upto_region 8 with (fail)
      clear q0 q1 q2 q3 q4 q5 q6 q7 q8 q9 q10 s0 s1 s2 s3 s4 s5 s6 s7 s8 s9 s10
      go_wp2_with fail
      refine (HD.out _).mono ?_
      rintro x w8 ⟨rfl, hb8⟩
      have HK8 := Lib.hid (keep_ms HK4.out.1 HK4.out.2 hb8)
      clear hb8
      go_upto_region 9 with (fail)
      generalize hW8 : World.alloc w8 _ = W8
      have hn8 : Ms W8 w8.heap.size nn := by rw [← hW8]; exact Cells.newAt _ _ _ _ rfl
      have HN8 := Lib.hid hn8
      have HK8 := Lib.hid (And.intro (show Ms W8 w.heap.size m by rw [← hW8]; exact HK8.out.1.alloc _) (show Below w.heap.size w W8 by rw [← hW8]; exact HK8.out.2.alloc HK8.out.2.size _))
      clear hW8 hn8
      obtain ⟨s0, s1, s2, s3, s4, s5, s6, s7, s8, s9, s10⟩ := HN8.out.all
      go_wp2_with fail
      refine (HE.out _).mono ?_
      rintro x w9 ⟨rfl, hb9⟩
      have HK9 := Lib.hid (keep_ms HK8.out.1 HK8.out.2 hb9)
      have HN9 := Lib.hid (show Ms w9 w8.heap.size nn from Cells.keep HN8.out hb9)
      clear hb9 s0 s1 s2 s3 s4 s5 s6 s7 s8 s9 s10
      obtain ⟨s0, s1, s2, s3, s4, s5, s6, s7, s8, s9, s10⟩ := HN9.out.all
      go_wp2_with fail
      refine (HF.out _).mono ?_
      rintro x w10 ⟨rfl, hb10⟩
      have HK10 := Lib.hid (keep_ms HK9.out.1 HK9.out.2 hb10)
      clear hb10 s0 s1 s2 s3 s4 s5 s6 s7 s8 s9 s10
      go_wp2
      go_ret
      exact ⟨rfl, HK10.out.2⟩
  · rw [if_neg h0] at h1
    have t0 : (m.check == 0) = false := by rw [beq_eq_false_iff_ne]; exact h0
    have H1 := Lib.hid h1
    have H2 := Lib.hid h2
    clear h1 h2 h0
    rcases hcase with hc | ⟨rfl, hnf, hn0, hnb⟩
    · have t2 : (cc != 0) = true := by rw [bne_iff_ne]; exact hc
      clear hc
      obtain ⟨q0, q1, q2, q3, q4, q5, q6, q7, q8, q9, q10⟩ := HK0.out.1.all
      rw [HW.out] at q0 q1 q2 q3 q4 q5 q6 q7 q8 q9 q10
      go_enter Try.func6, Try.ntmps6
      go_wp2_with fail
      rw [← HW.out]
      refine (H1.out _).mono ?_
      rintro x w1 ⟨rfl, hb1⟩
      have HK1 := Lib.hid (keep_ms HK0.out.1 HK0.out.2 hb1)
      clear hb1
      clear q0 q1 q2 q3 q4 q5 q6 q7 q8 q9 q10
      go_wp2_with fail
      refine (HA.out _).mono ?_
      rintro x w2 ⟨rfl, hb2⟩
      have HK2 := Lib.hid (keep_ms HK1.out.1 HK1.out.2 hb2)
      clear hb2
      obtain ⟨q0, q1, q2, q3, q4, q5, q6, q7, q8, q9, q10⟩ := HK2.out.1.all
      go_wp2_with fail
      refine (H2.out _).mono ?_
      rintro x w3 ⟨rfl, hb3⟩
      have HK3 := Lib.hid (keep_ms HK2.out.1 HK2.out.2 hb3)
      clear hb3
      clear q0 q1 q2 q3 q4 q5 q6 q7 q8 q9 q10
      go_wp2_with fail
      refine (HD.out _).mono ?_
      rintro x w8 ⟨rfl, hb8⟩
      have HK8 := Lib.hid (keep_ms HK3.out.1 HK3.out.2 hb8)
      clear hb8
      go_upto_region 9 with (fail)
      generalize hW8 : World.alloc w8 _ = W8
      have hn8 : Ms W8 w8.heap.size nn := by rw [← hW8]; exact Cells.newAt _ _ _ _ rfl
      have HN8 := Lib.hid hn8
      have HK8 := Lib.hid (And.intro (show Ms W8 w.heap.size m by rw [← hW8]; exact HK8.out.1.alloc _) (show Below w.heap.size w W8 by rw [← hW8]; exact HK8.out.2.alloc HK8.out.2.size _))
      clear hW8 hn8
      go_wp2
      go_ret
      exact ⟨rfl, HK8.out.2⟩
    · have he := fun wx => Encode_any nn wx hnf
      rw [hn0, if_pos rfl, hnb] at he
      have hf := fun wx => Check_any nn wx hnf
      rw [hn0] at hf
      have HE := Lib.hid he
      have HF := Lib.hid hf
      clear he hf hnf hn0 hnb
      obtain ⟨q0, q1, q2, q3, q4, q5, q6, q7, q8, q9, q10⟩ := HK0.out.1.all
      rw [HW.out] at q0 q1 q2 q3 q4 q5 q6 q7 q8 q9 q10
      go_enter Try.func6, Try.ntmps6
      go_wp2_with fail
      rw [← HW.out]
      refine (H1.out _).mono ?_
      rintro x w1 ⟨rfl, hb1⟩
      have HK1 := Lib.hid (keep_ms HK0.out.1 HK0.out.2 hb1)
      clear hb1
      clear q0 q1 q2 q3 q4 q5 q6 q7 q8 q9 q10
      go_wp2_with fail
      refine (HA.out _).mono ?_
      rintro x w2 ⟨rfl, hb2⟩
      have HK2 := Lib.hid (keep_ms HK1.out.1 HK1.out.2 hb2)
      clear hb2
      obtain ⟨q0, q1, q2, q3, q4, q5, q6, q7, q8, q9, q10⟩ := HK2.out.1.all
      go_wp2_with fail
      refine (H2.out _).mono ?_
      rintro x w3 ⟨rfl, hb3⟩
      have HK3 := Lib.hid (keep_ms HK2.out.1 HK2.out.2 hb3)
      clear hb3
      clear q0 q1 q2 q3 q4 q5 q6 q7 q8 q9 q10
      go_wp2_with fail
      refine (HD.out _).mono ?_
      rintro x w8 ⟨rfl, hb8⟩
      have HK8 := Lib.hid (keep_ms HK3.out.1 HK3.out.2 hb8)
      clear hb8
      go_upto_region 9 with (fail)
      generalize hW8 : World.alloc w8 _ = W8
      have hn8 : Ms W8 w8.heap.size nn := by rw [← hW8]; exact Cells.newAt _ _ _ _ rfl
      have HN8 := Lib.hid hn8
      have HK8 := Lib.hid (And.intro (show Ms W8 w.heap.size m by rw [← hW8]; exact HK8.out.1.alloc _) (show Below w.heap.size w W8 by rw [← hW8]; exact HK8.out.2.alloc HK8.out.2.size _))
      clear hW8 hn8
      obtain ⟨s0, s1, s2, s3, s4, s5, s6, s7, s8, s9, s10⟩ := HN8.out.all
      go_wp2_with fail
      refine (HE.out _).mono ?_
      rintro x w9 ⟨rfl, hb9⟩
      have HK9 := Lib.hid (keep_ms HK8.out.1 HK8.out.2 hb9)
      have HN9 := Lib.hid (show Ms w9 w8.heap.size nn from Cells.keep HN8.out hb9)
      clear hb9 s0 s1 s2 s3 s4 s5 s6 s7 s8 s9 s10
      obtain ⟨s0, s1, s2, s3, s4, s5, s6, s7, s8, s9, s10⟩ := HN9.out.all
      go_wp2_with fail
      refine (HF.out _).mono ?_
      rintro x w10 ⟨rfl, hb10⟩
      have HK10 := Lib.hid (keep_ms HK9.out.1 HK9.out.2 hb10)
      clear hb10 s0 s1 s2 s3 s4 s5 s6 s7 s8 s9 s10
      go_wp2
      go_ret
      exact ⟨rfl, HK10.out.2⟩

-- LIFT
set_option maxRecDepth 100000 in
theorem contract (H : Type) (enc : TypeId × Value → H) (W : World) (base : Nat) (args : Array Value) (ds gs : List (DataW H)) (before : List MemPlace)
    (hval : ∀ (j : Nat) t v, Try.f6.params[j]? = some t → args[j]? = some v → Value.okWide Try.prog W .any base t v)
    (hW : DataW.Whole enc Try.prog Try.f6.params.toList Rows.wireBackSpec.vars false W args.toList ds gs before) (hk : Rows.uptoSmall H (ds ++ gs) = true) :
    Calls Try.prog 6 args W fun e W' => ∃ v, e = .returned v ∧ Rows.wireBackSpec.post enc Try.prog Try.f6 false true false false W args v W' := by
  have hts : Try.f6.params.toList.all (fun t => Try.prog.readableRec t && decide (t < Try.prog.types.size)) = true := by kernel_rfl
  have hW' := hW
  obtain ⟨p, q, hA0, hV, rfl, hfz, hnd⟩ := hW
  have hA : DataW.TrodAll enc Try.prog W 0 (fun _ => true) true Try.f6.params.toList args.toList ds p := hA0
  rw [Try.params6] at hA hval
  obtain ⟨v0, vs0, d0, ds0, p0, q0, hargs, rfl, rfl, h0, r0⟩ := trodAll_cons hA
  obtain ⟨v1, vs1, d1, ds1, p1, q1, rfl, rfl, rfl, h1, r1⟩ := trodAll_cons r0
  obtain ⟨rfl, rfl, rfl⟩ := trodAll_nil r1
  obtain rfl : args = #[v0, v1] := by cases args; simp_all
  obtain ⟨rfl, rfl⟩ := trodVars_none hV
  have hfn : Rows.wireBackSpec.fn H ([d0, d1] ++ []) = { results := [.lit (.bool true)], args := [d0, d1] } := rfl
  have hfin := fun W' (hbel : Below W.heap.size W W') => law_post (f := Try.f6) (s := Rows.wireBackSpec) 4 Try.laid hts rfl Try.underlying4 rfl hfn hW' hbel
  clear hA0 hts hfn
  obtain ⟨s1, rfl, rfl, rfl, w1⟩ := open_string Try.underlying9 (hval 1 9 v1 rfl rfl) h1
  simp only [List.append_nil] at hk
  obtain ⟨m0, rfl, fit0⟩ := open_msg (hval 0 26 v0 rfl rfl) h0 (bulk_mem hk _ (by simp))
  have b1 : s1.size < 1048576 := bulk_string (bulk_mem hk _ (by simp))
  exact (walk m0 s1 W fit0 (by omega)).mono fun e W' ⟨he, hg⟩ => ⟨_, he, hfin W' hg⟩

set_option maxRecDepth 100000 in
theorem lifted (os : Os) (started : os.Started) (H : Type) (enc : TypeId × Value → H) (F : Stop.Interp) :
    ReturnsInHanded {} Try.checked os 6 .any ((Rows.OpenSpec.upto Rows.wireBackSpec).pre6 enc Try.prog Try.f6 Rows.wireBackUptoRow.domain false) (((Rows.OpenSpec.upto Rows.wireBackSpec).at F).post enc Try.prog Try.f6 false true false false) := by
  refine returnsInHanded_of_cond (C := Try.checked) (s := Rows.OpenSpec.upto Rows.wireBackSpec) (k := Rows.uptoSmall) rfl Try.own started (by kernel_rfl) Try.func6
    (OpenSpec.witness (enc := enc) (C := Try.checked) (s := Rows.OpenSpec.upto Rows.wireBackSpec) (k := Rows.uptoSmall) rfl false ⟨#[], #[.agg #[.int .i64 0, .int .i64 0, .int .i64 0, .int .i64 0, .int .i64 0, .int .i64 0, .int .i64 0, .int .i64 0, .int .u64 0, .string .empty, .string .empty], .string .empty], []⟩ 8 (by kernel_rfl) (by kernel_rfl) (by kernel_rfl)
      (x := ([.agg [.lit (.int .i64 0), .lit (.int .i64 0), .lit (.int .i64 0), .lit (.int .i64 0), .lit (.int .i64 0), .lit (.int .i64 0), .lit (.int .i64 0), .agg [.lit (.int .i64 0), .lit (.int .u64 0)], .lit (.string []), .lit (.string [])], .lit (.string [])], [], [])) (by kernel_rfl) rfl (by kernel_rfl)) ?_
  intro W base args ds gs before hval hW _ hk _
  exact contract H enc W base args ds gs before hval hW hk

theorem proved : Rows.WireBackUptoSaid :=
  OpenClaim.holds_of_cond 6 Try.f6 rfl rfl rfl rfl rfl rfl rfl ⟨rfl, rfl, rfl, rfl, rfl⟩ rfl rfl rfl rfl rfl (by kernel_rfl) Try.func6 (by kernel_rfl)
    (of_decide_eq_true (by kernel_rfl)) (by unfold Func.isWrapper; first | (rw [if_pos (by decide +kernel)]; kernel_rfl) | (rw [if_neg (by decide +kernel)]; exact ⟨rfl, rfl⟩))
    (fun os started H enc _ F => lifted os started H enc F)

end Go.Proofs.Ytcladlebmoefgaa.wireBack
