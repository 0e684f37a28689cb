/- WireLays: wire.Encode lays the bytes that the document says, for any message. Condition: the arguments are together of bulk at most 1048576. -/
import Derived.Test.YtcladlebmoefgaaWAwake
namespace Go.Proofs.Ytcladlebmoefgaa.wireLays
open Go.RowKit Go.WideShapes Go.ChangeShapes Go.ChangeAt
open Go.ChangeMaps (open_string shut_string)

set_option maxHeartbeats 4000000 in
set_option maxRecDepth 100000 in
theorem walk (m : Mg) (w : World) (hfit : m.Fit) :
    Calls Try.prog 4 #[m.val] w fun e w' => e = .returned (.bool true) ∧ Below w.heap.size w w' := by
  obtain ⟨W, hW⟩ : ∃ W, W = w.alloc (.cells m.cells 26) := ⟨_, rfl⟩
  have hm : Ms W w.heap.size m := by rw [hW]; exact Cells.newAt _ _ _ _ rfl
  have hBW : Below w.heap.size w W := by rw [hW]; exact below_new0 _ _
  have HW := Lib.hid hW
  have HK0 := Lib.hid (And.intro hm hBW)
  clear hW hm hBW
  have h1 := fun wx => Encode_any m wx hfit
  have h2 := fun wx => rEncode_any m wx hfit
  generalize (if m.check = 0 then str m.bytes else ⟨#[]⟩) = S at h1 h2
  generalize m.check = C at h1 h2
  have H1 := Lib.hid h1
  have H2 := Lib.hid h2
  have HA := Lib.hid awake_any
  clear h1 h2
  obtain ⟨q0, q1, q2, q3, q4, q5, q6, q7, q8, q9, q10⟩ := HK0.out.1.all
  rw [HW.out] at q0 q1 q2 q3 q4 q5 q6 q7 q8 q9 q10
  go_enter Try.func4, Try.ntmps4
  go_wp2_with fail
  rw [← HW.out]
  refine (H1.out _).mono ?_
  rintro x w1 ⟨rfl, hb1⟩
  have HK1 := Lib.hid (keep_ms HK0.out.1 HK0.out.2 hb1)
  clear hb1
  clear q0 q1 q2 q3 q4 q5 q6 q7 q8 q9 q10
  obtain ⟨q0, q1, q2, q3, q4, q5, q6, q7, q8, q9, q10⟩ := HK1.out.1.all
  go_wp2_with fail
  refine (H2.out _).mono ?_
  rintro x w2 ⟨rfl, hb2⟩
  have HK2 := Lib.hid (keep_ms HK1.out.1 HK1.out.2 hb2)
  clear hb2
  clear q0 q1 q2 q3 q4 q5 q6 q7 q8 q9 q10
  go_wp2_with fail
  refine (HA.out _).mono ?_
  rintro x w3 ⟨rfl, hb3⟩
  have HK3 := Lib.hid (keep_ms HK2.out.1 HK2.out.2 hb3)
  clear hb3
  go_wp2
  go_ret
  exact ⟨rfl, HK3.out.2⟩

-- LIFT
set_option maxRecDepth 100000 in
theorem contract (H : Type) (enc : TypeId × Value → H) (W : World) (base : Nat) (args : Array Value) (ds gs : List (DataW H)) (before : List MemPlace)
    (hval : ∀ (j : Nat) t v, Try.f4.params[j]? = some t → args[j]? = some v → Value.okWide Try.prog W .any base t v)
    (hW : DataW.Whole enc Try.prog Try.f4.params.toList Rows.wireLaysSpec.vars false W args.toList ds gs before) (hk : Rows.uptoSmall H (ds ++ gs) = true) :
    Calls Try.prog 4 args W fun e W' => ∃ v, e = .returned v ∧ Rows.wireLaysSpec.post enc Try.prog Try.f4 false true false false W args v W' := by
  have hts : Try.f4.params.toList.all (fun t => Try.prog.readableRec t && decide (t < Try.prog.types.size)) = true := by kernel_rfl
  have hW' := hW
  obtain ⟨p, q, hA0, hV, rfl, hfz, hnd⟩ := hW
  have hA : DataW.TrodAll enc Try.prog W 0 (fun _ => true) true Try.f4.params.toList args.toList ds p := hA0
  rw [Try.params4] at hA hval
  obtain ⟨v0, vs0, d0, ds0, p0, q0, hargs, rfl, rfl, h0, r0⟩ := trodAll_cons hA
  obtain ⟨rfl, rfl, rfl⟩ := trodAll_nil r0
  obtain rfl : args = #[v0] := by cases args; simp_all
  obtain ⟨rfl, rfl⟩ := trodVars_none hV
  have hfn : Rows.wireLaysSpec.fn H ([d0] ++ []) = { results := [.lit (.bool true)], args := [d0] } := rfl
  have hfin := fun W' (hbel : Below W.heap.size W W') => law_post (f := Try.f4) (s := Rows.wireLaysSpec) 4 Try.laid hts rfl Try.underlying4 rfl hfn hW' hbel
  clear hA0 hts hfn
  simp only [List.append_nil] at hk
  obtain ⟨m0, rfl, fit0⟩ := open_msg (hval 0 26 v0 rfl rfl) h0 (bulk_mem hk _ (by simp))
  exact (walk m0 W fit0).mono fun e W' ⟨he, hg⟩ => ⟨_, he, hfin W' hg⟩

set_option maxRecDepth 100000 in
theorem lifted (os : Os) (started : os.Started) (H : Type) (enc : TypeId × Value → H) (F : Stop.Interp) :
    ReturnsInHanded {} Try.checked os 4 .any ((Rows.OpenSpec.upto Rows.wireLaysSpec).pre6 enc Try.prog Try.f4 Rows.wireLaysUptoRow.domain false) (((Rows.OpenSpec.upto Rows.wireLaysSpec).at F).post enc Try.prog Try.f4 false true false false) := by
  refine returnsInHanded_of_cond (C := Try.checked) (s := Rows.OpenSpec.upto Rows.wireLaysSpec) (k := Rows.uptoSmall) rfl Try.own started (by kernel_rfl) Try.func4
    (OpenSpec.witness (enc := enc) (C := Try.checked) (s := Rows.OpenSpec.upto Rows.wireLaysSpec) (k := Rows.uptoSmall) rfl false ⟨#[], #[.agg #[.int .i64 0, .int .i64 0, .int .i64 0, .int .i64 0, .int .i64 0, .int .i64 0, .int .i64 0, .int .i64 0, .int .u64 0, .string .empty, .string .empty]], []⟩ 8 (by kernel_rfl) (by kernel_rfl) (by kernel_rfl)
      (x := ([.agg [.lit (.int .i64 0), .lit (.int .i64 0), .lit (.int .i64 0), .lit (.int .i64 0), .lit (.int .i64 0), .lit (.int .i64 0), .lit (.int .i64 0), .agg [.lit (.int .i64 0), .lit (.int .u64 0)], .lit (.string []), .lit (.string [])]], [], [])) (by kernel_rfl) rfl (by kernel_rfl)) ?_
  intro W base args ds gs before hval hW _ hk _
  exact contract H enc W base args ds gs before hval hW hk

theorem proved : Rows.WireLaysUptoSaid :=
  OpenClaim.holds_of_cond 4 Try.f4 rfl rfl rfl rfl rfl rfl rfl ⟨rfl, rfl, rfl, rfl, rfl⟩ rfl rfl rfl rfl rfl (by kernel_rfl) Try.func4 (by kernel_rfl)
    (of_decide_eq_true (by kernel_rfl)) (by unfold Func.isWrapper; first | (rw [if_pos (by decide +kernel)]; kernel_rfl) | (rw [if_neg (by decide +kernel)]; exact ⟨rfl, rfl⟩))
    (fun os started H enc _ F => lifted os started H enc F)

end Go.Proofs.Ytcladlebmoefgaa.wireLays
