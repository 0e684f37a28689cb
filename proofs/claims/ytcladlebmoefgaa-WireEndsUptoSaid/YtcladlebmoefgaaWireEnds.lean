/- WireEnds: a message's bytes are no beginning of another one's, and none of their beginnings is a message. Condition: the arguments are together of bulk at most 1048576. -/
import Derived.Test.YtcladlebmoefgaaWAwake
namespace Go.Proofs.Ytcladlebmoefgaa.wireEnds
open Go.RowKit Go.WideShapes Go.ChangeShapes Go.ChangeAt
open Go.ChangeMaps (open_string shut_string)

theorem extract_take (l : List UInt8) (k : Nat) : (str l).extract 0 k = str (l.take k) := by
  apply ByteArray.ext
  apply Array.toList_inj.1
  simp [str]

theorem str_app (l : List UInt8) (b : ByteArray) : str l ++ b = str (l ++ b.data.toList) := by
  apply ByteArray.ext
  apply Array.toList_inj.1
  simp [str]

set_option maxHeartbeats 8000000 in
set_option maxRecDepth 100000 in
theorem walk (m : Mg) (cut : Int) (mo : ByteArray) (w : World) (hfit : m.Fit) (hcut : -9223372036854775808 ≤ cut ∧ cut ≤ 9223372036854775807) (hb : mo.size < 1073741824) :
    Calls Try.prog 7 #[m.val, .int .i64 cut, .string mo] w fun e w' => e = .returned (.bool true) ∧ Below w.heap.size w w' := by
  obtain ⟨W, hW⟩ : ∃ W, W = w.alloc (.cells m.cells 26) := ⟨_, rfl⟩
  have hm : Ms W w.heap.size m := by rw [hW]; exact Cells.newAt _ _ _ _ rfl
  have hBW : Below w.heap.size w W := by rw [hW]; exact below_new0 _ _
  have HW := Lib.hid hW
  have HK0 := Lib.hid (And.intro hm hBW)
  clear hW hm hBW
  have h1 := fun wx => Encode_any m wx hfit
  have HA := Lib.hid awake_any
  obtain ⟨q0, q1, q2, q3, q4, q5, q6, q7, q8, q9, q10⟩ := HK0.out.1.all
  rw [HW.out] at q0 q1 q2 q3 q4 q5 q6 q7 q8 q9 q10
  by_cases h0 : m.check = 0
  · have hle := bytes_le hfit h0
    have hcc : ∀ K : Nat, K < (str m.bytes).size → ∀ wx, Calls Try.prog 15 #[.string ((str m.bytes).extract 0 K)] wx fun e w' => e = .returned (.tuple #[(Mg.none 0).val, .int .i64 72]) ∧ Below wx.heap.size wx w' := fun K hK wx => by
      rw [str_size] at hK
      rw [extract_take]
      have h := Decode_any (str (m.bytes.take K)) wx (by rw [str_size, List.length_take]; omega)
      rw [decode_cut hfit h0 hK] at h
      exact h
    have hmm : mo ≠ ⟨#[]⟩ → (mo.size : Int) ≤ 2048 - ((str m.bytes).size : Int) → ∀ wx, Calls Try.prog 15 #[.string (str m.bytes ++ mo)] wx fun e w' => e = .returned (.tuple #[(Mg.none 0).val, .int .i64 72]) ∧ Below wx.heap.size wx w' := fun hne hK wx => by
      rw [str_size] at hK
      have hlen : (m.bytes ++ mo.data.toList).length ≤ 2048 := by
        have : mo.data.toList.length = mo.size := rfl
        rw [List.length_append]
        omega
      have hn : mo.data.toList ≠ [] := fun e => hne (ByteArray.ext (Array.toList_inj.1 e))
      rw [str_app]
      have h := Decode_any (str (m.bytes ++ mo.data.toList)) wx (by rw [str_size]; omega)
      rw [decode_more hfit h0 hn hlen] at h
      exact h
    have hsz : (str m.bytes).size ≤ 2048 := by rw [str_size]; exact hle
    rw [h0, if_pos rfl] at h1
    clear h0 hle
    generalize str m.bytes = S at h1 hcc hmm hsz
    have H1 := Lib.hid h1
    have HC := Lib.hid hcc
    have HM := Lib.hid hmm
    clear h1 hcc hmm
    by_cases c0 : 0 ≤ cut
    · obtain ⟨K, rfl⟩ := Int.eq_ofNat_of_zero_le c0
      by_cases c1 : (K : Int) < S.size
      · have t1 : decide ((K : Int) < (S.size : Int)) = true := decide_eq_true c1
        have HC := Lib.hid (HC.out K (by omega))
        by_cases a1 : mo = ⟨#[]⟩
        · have t3 : mo.toList = [] := by rw [a1]; exact empty_list
          have t4 : mo.toList.isEmpty = true := by rw [t3]; rfl
          clear a1 HM
          go_enter Try.func7, Try.ntmps7
          go_wp2_with fail
          rw [← HW.out]
          refine (H1.out _).mono ?_
          rintro x w1 ⟨rfl, hb1⟩
          have HK1 := Lib.hid (keep_ms HK0.out.1 HK0.out.2 hb1)
          clear hb1
          clear q0 q1 q2 q3 q4 q5 q6 q7 q8 q9 q10
          go_wp2_with fail
          refine (HA.out _).mono ?_
          rintro x w2 ⟨rfl, hb2⟩
          have HK2 := Lib.hid (keep_ms HK1.out.1 HK1.out.2 hb2)
          clear hb2
          go_wp2_with fail
          refine (HC.out _).mono ?_
          rintro x w3 ⟨rfl, hb3⟩
          have HK3 := Lib.hid (keep_ms HK2.out.1 HK2.out.2 hb3)
          clear hb3
          go_upto_region 8 with (fail)
          generalize hW3 : World.alloc w3 _ = W3
          have HK3 := Lib.hid (And.intro (show Ms W3 w.heap.size m by rw [← hW3]; exact HK3.out.1.alloc _) (show Below w.heap.size w W3 by rw [← hW3]; exact HK3.out.2.alloc HK3.out.2.size _))
          clear hW3
          go_wp2
          go_ret
          exact ⟨rfl, HK3.out.2⟩
        · have t3 : ¬ mo.toList = [] := fun e => a1 (bytes_inj (e.trans empty_list.symm))
          have t4 : mo.toList.isEmpty = false := by simpa using t3
          by_cases a2 : (2048 : Int) - S.size < mo.size
          · have t5 : decide ((2048 : Int) - S.size < mo.size) = true := decide_eq_true a2
            clear a1 HM
            go_enter Try.func7, Try.ntmps7
            go_wp2_with fail
            rw [← HW.out]
            refine (H1.out _).mono ?_
            rintro x w1 ⟨rfl, hb1⟩
            have HK1 := Lib.hid (keep_ms HK0.out.1 HK0.out.2 hb1)
            clear hb1
            clear q0 q1 q2 q3 q4 q5 q6 q7 q8 q9 q10
            go_wp2_with fail
            refine (HA.out _).mono ?_
            rintro x w2 ⟨rfl, hb2⟩
            have HK2 := Lib.hid (keep_ms HK1.out.1 HK1.out.2 hb2)
            clear hb2
            go_wp2_with fail
            refine (HC.out _).mono ?_
            rintro x w3 ⟨rfl, hb3⟩
            have HK3 := Lib.hid (keep_ms HK2.out.1 HK2.out.2 hb3)
            clear hb3
            go_upto_region 8 with (fail)
            generalize hW3 : World.alloc w3 _ = W3
            have HK3 := Lib.hid (And.intro (show Ms W3 w.heap.size m by rw [← hW3]; exact HK3.out.1.alloc _) (show Below w.heap.size w W3 by rw [← hW3]; exact HK3.out.2.alloc HK3.out.2.size _))
            clear hW3
            go_wp2
            go_ret
            exact ⟨rfl, HK3.out.2⟩
          · have t5 : decide ((2048 : Int) - S.size < mo.size) = false := decide_eq_false a2
            have HM := Lib.hid (HM.out a1 (by omega))
            clear a1
            go_enter Try.func7, Try.ntmps7
            go_wp2_with fail
            rw [← HW.out]
            refine (H1.out _).mono ?_
            rintro x w1 ⟨rfl, hb1⟩
            have HK1 := Lib.hid (keep_ms HK0.out.1 HK0.out.2 hb1)
            clear hb1
            clear q0 q1 q2 q3 q4 q5 q6 q7 q8 q9 q10
            go_wp2_with fail
            refine (HA.out _).mono ?_
            rintro x w2 ⟨rfl, hb2⟩
            have HK2 := Lib.hid (keep_ms HK1.out.1 HK1.out.2 hb2)
            clear hb2
            go_wp2_with fail
            refine (HC.out _).mono ?_
            rintro x w3 ⟨rfl, hb3⟩
            have HK3 := Lib.hid (keep_ms HK2.out.1 HK2.out.2 hb3)
            clear hb3
            go_upto_region 8 with (fail)
            generalize hW3 : World.alloc w3 _ = W3
            have HK3 := Lib.hid (And.intro (show Ms W3 w.heap.size m by rw [← hW3]; exact HK3.out.1.alloc _) (show Below w.heap.size w W3 by rw [← hW3]; exact HK3.out.2.alloc HK3.out.2.size _))
            clear hW3
            go_wp2_with fail
            refine (HM.out _).mono ?_
            rintro x w4 ⟨rfl, hb4⟩
            have HK4 := Lib.hid (keep_ms HK3.out.1 HK3.out.2 hb4)
            clear hb4
            go_upto_region 13 with (fail)
            generalize hW4 : World.alloc w4 _ = W4
            have HK4 := Lib.hid (And.intro (show Ms W4 w.heap.size m by rw [← hW4]; exact HK4.out.1.alloc _) (show Below w.heap.size w W4 by rw [← hW4]; exact HK4.out.2.alloc HK4.out.2.size _))
            clear hW4
            go_wp2
            go_ret
            exact ⟨rfl, HK4.out.2⟩
      · have t1 : decide ((K : Int) < (S.size : Int)) = false := decide_eq_false c1
        clear HC
        by_cases a1 : mo = ⟨#[]⟩
        · have t3 : mo.toList = [] := by rw [a1]; exact empty_list
          have t4 : mo.toList.isEmpty = true := by rw [t3]; rfl
          clear a1 HM
          go_enter Try.func7, Try.ntmps7
          go_wp2_with fail
          rw [← HW.out]
          refine (H1.out _).mono ?_
          rintro x w1 ⟨rfl, hb1⟩
          have HK1 := Lib.hid (keep_ms HK0.out.1 HK0.out.2 hb1)
          clear hb1
          clear q0 q1 q2 q3 q4 q5 q6 q7 q8 q9 q10
          go_wp2_with fail
          refine (HA.out _).mono ?_
          rintro x w2 ⟨rfl, hb2⟩
          have HK2 := Lib.hid (keep_ms HK1.out.1 HK1.out.2 hb2)
          clear hb2
          go_wp2
          go_ret
          exact ⟨rfl, HK2.out.2⟩
        · have t3 : ¬ mo.toList = [] := fun e => a1 (bytes_inj (e.trans empty_list.symm))
          have t4 : mo.toList.isEmpty = false := by simpa using t3
          by_cases a2 : (2048 : Int) - S.size < mo.size
          · have t5 : decide ((2048 : Int) - S.size < mo.size) = true := decide_eq_true a2
            clear a1 HM
            go_enter Try.func7, Try.ntmps7
            go_wp2_with fail
            rw [← HW.out]
            refine (H1.out _).mono ?_
            rintro x w1 ⟨rfl, hb1⟩
            have HK1 := Lib.hid (keep_ms HK0.out.1 HK0.out.2 hb1)
            clear hb1
            clear q0 q1 q2 q3 q4 q5 q6 q7 q8 q9 q10
            go_wp2_with fail
            refine (HA.out _).mono ?_
            rintro x w2 ⟨rfl, hb2⟩
            have HK2 := Lib.hid (keep_ms HK1.out.1 HK1.out.2 hb2)
            clear hb2
            go_wp2
            go_ret
            exact ⟨rfl, HK2.out.2⟩
          · have t5 : decide ((2048 : Int) - S.size < mo.size) = false := decide_eq_false a2
            have HM := Lib.hid (HM.out a1 (by omega))
            clear a1
            go_enter Try.func7, Try.ntmps7
            go_wp2_with fail
            rw [← HW.out]
            refine (H1.out _).mono ?_
            rintro x w1 ⟨rfl, hb1⟩
            have HK1 := Lib.hid (keep_ms HK0.out.1 HK0.out.2 hb1)
            clear hb1
            clear q0 q1 q2 q3 q4 q5 q6 q7 q8 q9 q10
            go_wp2_with fail
            refine (HA.out _).mono ?_
            rintro x w2 ⟨rfl, hb2⟩
            have HK2 := Lib.hid (keep_ms HK1.out.1 HK1.out.2 hb2)
            clear hb2
            go_wp2_with fail
            refine (HM.out _).mono ?_
            rintro x w4 ⟨rfl, hb4⟩
            have HK4 := Lib.hid (keep_ms HK2.out.1 HK2.out.2 hb4)
            clear hb4
            go_upto_region 13 with (fail)
            generalize hW4 : World.alloc w4 _ = W4
            have HK4 := Lib.hid (And.intro (show Ms W4 w.heap.size m by rw [← hW4]; exact HK4.out.1.alloc _) (show Below w.heap.size w W4 by rw [← hW4]; exact HK4.out.2.alloc HK4.out.2.size _))
            clear hW4
            go_wp2
            go_ret
            exact ⟨rfl, HK4.out.2⟩
    · have t1 : decide (0 ≤ cut) = false := decide_eq_false c0
      clear HC
      by_cases a1 : mo = ⟨#[]⟩
      · have t3 : mo.toList = [] := by rw [a1]; exact empty_list
        have t4 : mo.toList.isEmpty = true := by rw [t3]; rfl
        clear a1 HM
        go_enter Try.func7, Try.ntmps7
        go_wp2_with fail
        rw [← HW.out]
        refine (H1.out _).mono ?_
        rintro x w1 ⟨rfl, hb1⟩
        have HK1 := Lib.hid (keep_ms HK0.out.1 HK0.out.2 hb1)
        clear hb1
        clear q0 q1 q2 q3 q4 q5 q6 q7 q8 q9 q10
        go_wp2_with fail
        refine (HA.out _).mono ?_
        rintro x w2 ⟨rfl, hb2⟩
        have HK2 := Lib.hid (keep_ms HK1.out.1 HK1.out.2 hb2)
        clear hb2
        go_wp2
        go_ret
        exact ⟨rfl, HK2.out.2⟩
      · have t3 : ¬ mo.toList = [] := fun e => a1 (bytes_inj (e.trans empty_list.symm))
        have t4 : mo.toList.isEmpty = false := by simpa using t3
        by_cases a2 : (2048 : Int) - S.size < mo.size
        · have t5 : decide ((2048 : Int) - S.size < mo.size) = true := decide_eq_true a2
          clear a1 HM
          go_enter Try.func7, Try.ntmps7
          go_wp2_with fail
          rw [← HW.out]
          refine (H1.out _).mono ?_
          rintro x w1 ⟨rfl, hb1⟩
          have HK1 := Lib.hid (keep_ms HK0.out.1 HK0.out.2 hb1)
          clear hb1
          clear q0 q1 q2 q3 q4 q5 q6 q7 q8 q9 q10
          go_wp2_with fail
          refine (HA.out _).mono ?_
          rintro x w2 ⟨rfl, hb2⟩
          have HK2 := Lib.hid (keep_ms HK1.out.1 HK1.out.2 hb2)
          clear hb2
          go_wp2
          go_ret
          exact ⟨rfl, HK2.out.2⟩
        · have t5 : decide ((2048 : Int) - S.size < mo.size) = false := decide_eq_false a2
          have HM := Lib.hid (HM.out a1 (by omega))
          clear a1
          go_enter Try.func7, Try.ntmps7
          go_wp2_with fail
          rw [← HW.out]
          refine (H1.out _).mono ?_
          rintro x w1 ⟨rfl, hb1⟩
          have HK1 := Lib.hid (keep_ms HK0.out.1 HK0.out.2 hb1)
          clear hb1
          clear q0 q1 q2 q3 q4 q5 q6 q7 q8 q9 q10
          go_wp2_with fail
          refine (HA.out _).mono ?_
          rintro x w2 ⟨rfl, hb2⟩
          have HK2 := Lib.hid (keep_ms HK1.out.1 HK1.out.2 hb2)
          clear hb2
          go_wp2_with fail
          refine (HM.out _).mono ?_
          rintro x w4 ⟨rfl, hb4⟩
          have HK4 := Lib.hid (keep_ms HK2.out.1 HK2.out.2 hb4)
          clear hb4
          go_upto_region 13 with (fail)
          generalize hW4 : World.alloc w4 _ = W4
          have HK4 := Lib.hid (And.intro (show Ms W4 w.heap.size m by rw [← hW4]; exact HK4.out.1.alloc _) (show Below w.heap.size w W4 by rw [← hW4]; exact HK4.out.2.alloc HK4.out.2.size _))
          clear hW4
          go_wp2
          go_ret
          exact ⟨rfl, HK4.out.2⟩
  · rw [if_neg h0] at h1
    have t0 : (m.check != 0) = true := by rw [bne_iff_ne]; exact h0
    have H1 := Lib.hid h1
    clear h1 h0
    go_enter Try.func7, Try.ntmps7
    go_wp2_with fail
    rw [← HW.out]
    refine (H1.out _).mono ?_
    rintro x w1 ⟨rfl, hb1⟩
    have HK1 := Lib.hid (keep_ms HK0.out.1 HK0.out.2 hb1)
    clear hb1
    clear q0 q1 q2 q3 q4 q5 q6 q7 q8 q9 q10
    go_wp2_with fail
    refine (HA.out _).mono ?_
    rintro x w2 ⟨rfl, hb2⟩
    have HK2 := Lib.hid (keep_ms HK1.out.1 HK1.out.2 hb2)
    clear hb2
    go_wp2
    go_ret
    exact ⟨rfl, HK2.out.2⟩

-- LIFT
set_option maxRecDepth 100000 in
theorem contract (H : Type) (enc : TypeId × Value → H) (W : World) (base : Nat) (args : Array Value) (ds gs : List (DataW H)) (before : List MemPlace)
    (hval : ∀ (j : Nat) t v, Try.f7.params[j]? = some t → args[j]? = some v → Value.okWide Try.prog W .any base t v)
    (hW : DataW.Whole enc Try.prog Try.f7.params.toList Rows.wireEndsSpec.vars false W args.toList ds gs before) (hk : Rows.uptoSmall H (ds ++ gs) = true) :
    Calls Try.prog 7 args W fun e W' => ∃ v, e = .returned v ∧ Rows.wireEndsSpec.post enc Try.prog Try.f7 false true false false W args v W' := by
  have hts : Try.f7.params.toList.all (fun t => Try.prog.readableRec t && decide (t < Try.prog.types.size)) = true := by kernel_rfl
  have hW' := hW
  obtain ⟨p, q, hA0, hV, rfl, hfz, hnd⟩ := hW
  have hA : DataW.TrodAll enc Try.prog W 0 (fun _ => true) true Try.f7.params.toList args.toList ds p := hA0
  rw [Try.params7] at hA hval
  obtain ⟨v0, vs0, d0, ds0, p0, q0, hargs, rfl, rfl, h0, r0⟩ := trodAll_cons hA
  obtain ⟨v1, vs1, d1, ds1, p1, q1, rfl, rfl, rfl, h1, r1⟩ := trodAll_cons r0
  obtain ⟨v2, vs2, d2, ds2, p2, q2, rfl, rfl, rfl, h2, r2⟩ := trodAll_cons r1
  obtain ⟨rfl, rfl, rfl⟩ := trodAll_nil r2
  obtain rfl : args = #[v0, v1, v2] := by cases args; simp_all
  obtain ⟨rfl, rfl⟩ := trodVars_none hV
  have hfn : Rows.wireEndsSpec.fn H ([d0, d1, d2] ++ []) = { results := [.lit (.bool true)], args := [d0, d1, d2] } := rfl
  have hfin := fun W' (hbel : Below W.heap.size W W') => law_post (f := Try.f7) (s := Rows.wireEndsSpec) 4 Try.laid hts rfl Try.underlying4 rfl hfn hW' hbel
  clear hA0 hts hfn
  obtain ⟨a1, rfl, rfl, rfl, w1⟩ := open_int Try.underlying3 (hval 1 3 v1 rfl rfl) h1
  obtain ⟨s2, rfl, rfl, rfl, w2⟩ := open_string Try.underlying9 (hval 2 9 v2 rfl rfl) h2
  simp only [List.append_nil] at hk
  obtain ⟨m0, rfl, fit0⟩ := open_msg (hval 0 26 v0 rfl rfl) h0 (bulk_mem hk _ (by simp))
  have x1 : -9223372036854775808 ≤ a1 ∧ a1 ≤ 9223372036854775807 := by simpa [Lit.wf, IntKind.min, IntKind.max, IntKind.signed, IntKind.bits] using w1
  have b2 : s2.size < 1048576 := bulk_string (bulk_mem hk _ (by simp))
  exact (walk m0 a1 s2 W fit0 x1 (by omega)).mono fun e W' ⟨he, hg⟩ => ⟨_, he, hfin W' hg⟩

set_option maxRecDepth 100000 in
theorem lifted (os : Os) (started : os.Started) (H : Type) (enc : TypeId × Value → H) (F : Stop.Interp) :
    ReturnsInHanded {} Try.checked os 7 .any ((Rows.OpenSpec.upto Rows.wireEndsSpec).pre6 enc Try.prog Try.f7 Rows.wireEndsUptoRow.domain false) (((Rows.OpenSpec.upto Rows.wireEndsSpec).at F).post enc Try.prog Try.f7 false true false false) := by
  refine returnsInHanded_of_cond (C := Try.checked) (s := Rows.OpenSpec.upto Rows.wireEndsSpec) (k := Rows.uptoSmall) rfl Try.own started (by kernel_rfl) Try.func7
    (OpenSpec.witness (enc := enc) (C := Try.checked) (s := Rows.OpenSpec.upto Rows.wireEndsSpec) (k := Rows.uptoSmall) rfl false ⟨#[], #[.agg #[.int .i64 0, .int .i64 0, .int .i64 0, .int .i64 0, .int .i64 0, .int .i64 0, .int .i64 0, .int .i64 0, .int .u64 0, .string .empty, .string .empty], .int .i64 0, .string .empty], []⟩ 8 (by kernel_rfl) (by kernel_rfl) (by kernel_rfl)
      (x := ([.agg [.lit (.int .i64 0), .lit (.int .i64 0), .lit (.int .i64 0), .lit (.int .i64 0), .lit (.int .i64 0), .lit (.int .i64 0), .lit (.int .i64 0), .agg [.lit (.int .i64 0), .lit (.int .u64 0)], .lit (.string []), .lit (.string [])], .lit (.int .i64 0), .lit (.string [])], [], [])) (by kernel_rfl) rfl (by kernel_rfl)) ?_
  intro W base args ds gs before hval hW _ hk _
  exact contract H enc W base args ds gs before hval hW hk

theorem proved : Rows.WireEndsUptoSaid :=
  OpenClaim.holds_of_cond 7 Try.f7 rfl rfl rfl rfl rfl rfl rfl ⟨rfl, rfl, rfl, rfl, rfl⟩ rfl rfl rfl rfl rfl (by kernel_rfl) Try.func7 (by kernel_rfl)
    (of_decide_eq_true (by kernel_rfl)) (by unfold Func.isWrapper; first | (rw [if_pos (by decide +kernel)]; kernel_rfl) | (rw [if_neg (by decide +kernel)]; exact ⟨rfl, rfl⟩))
    (fun os started H enc _ F => lifted os started H enc F)

end Go.Proofs.Ytcladlebmoefgaa.wireEnds
