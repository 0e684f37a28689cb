/- WireReads: wire.Decode reads any bytes as the document says. Condition: the arguments are together of bulk at most 1048576. -/
import Derived.Test.YtcladlebmoefgaaWAwake
namespace Go.Proofs.Ytcladlebmoefgaa.wireReads
open Go.RowKit Go.WideShapes Go.ChangeShapes Go.ChangeAt
open Go.ChangeMaps (open_string shut_string)

set_option maxHeartbeats 4000000 in
set_option maxRecDepth 100000 in
theorem walk (b : ByteArray) (w : World) (hb : b.size < 1073741824) :
    Calls Try.prog 5 #[.string b] w fun e w' => e = .returned (.bool true) ∧ Below w.heap.size w w' := by
  have h1 := fun wx => Decode_any b wx hb
  have h2 := fun wx => rDecode_any b wx hb
  rw [rdecode_eq] at h2
  generalize (decode b).1 = m at h1 h2
  generalize (decode b).2 = C at h1 h2
  have hq : ∀ wx, (binOp .eql 26 m.val m.val).run Try.prog wx = .ok (.bool true) wx := fun wx => by rw [msg_eql, decide_eq_true rfl]
  have H1 := Lib.hid h1
  have H2 := Lib.hid h2
  clear h1 h2
  go_enter Try.func5, Try.ntmps5
  go_wp2_with fail
  refine (H1.out _).mono ?_
  rintro x w1 ⟨rfl, hb1⟩
  have HB1 := Lib.hid hb1
  clear hb1
  go_upto_region 2 with (fail)
  generalize hW1 : World.alloc w1 _ = W1
  have hm1 : Ms W1 w1.heap.size m := by rw [← hW1]; exact Cells.newAt _ _ _ _ rfl
  have hbW1 : Below w.heap.size w W1 := by rw [← hW1]; exact HB1.out.alloc HB1.out.size _
  have HK1 := Lib.hid (And.intro hm1 hbW1)
  clear hW1 hm1 hbW1
  go_wp2_with fail
  refine (H2.out _).mono ?_
  rintro x w2 ⟨rfl, hb2⟩
  have HK2 := Lib.hid (keep_ms HK1.out.1 HK1.out.2 hb2)
  clear hb2
  go_upto_region 3 with (fail)
  generalize hW2 : World.alloc w2 _ = W2
  have hm2 : Ms W2 w2.heap.size m := by rw [← hW2]; exact Cells.newAt _ _ _ _ rfl
  have hm2' : Ms W2 w1.heap.size m := by rw [← hW2]; exact HK2.out.1.alloc _
  have hbW2 : Below w.heap.size w W2 := by rw [← hW2]; exact HK2.out.2.alloc HK2.out.2.size _
  have HK3 := Lib.hid (And.intro hm2 hbW2)
  have HK4 := Lib.hid hm2'
  clear hW2 hm2 hbW2 hm2'
  go_wp2_with fail
  refine (awake_any _).mono ?_
  rintro x w3 ⟨rfl, hb3⟩
  have HK5 := Lib.hid (keep_ms HK3.out.1 HK3.out.2 hb3)
  have HK6 := Lib.hid (Cells.keep HK4.out hb3)
  clear hb3
  obtain ⟨q0, q1, q2, q3, q4, q5, q6, q7, q8, q9, q10⟩ := HK5.out.1.all
  obtain ⟨s0, s1, s2, s3, s4, s5, s6, s7, s8, s9, s10⟩ := Ms.all HK6.out
  go_wp2
  go_ret
  exact ⟨rfl, HK5.out.2⟩

-- LIFT
set_option maxRecDepth 100000 in
theorem contract (H : Type) (enc : TypeId × Value → H) (W : World) (base : Nat) (args : Array Value) (ds gs : List (DataW H)) (before : List MemPlace)
    (hval : ∀ (j : Nat) t v, Try.f5.params[j]? = some t → args[j]? = some v → Value.okWide Try.prog W .any base t v)
    (hW : DataW.Whole enc Try.prog Try.f5.params.toList Rows.wireReadsSpec.vars false W args.toList ds gs before) (hk : Rows.uptoSmall H (ds ++ gs) = true) :
    Calls Try.prog 5 args W fun e W' => ∃ v, e = .returned v ∧ Rows.wireReadsSpec.post enc Try.prog Try.f5 false true false false W args v W' := by
  have hts : Try.f5.params.toList.all (fun t => Try.prog.readableRec t && decide (t < Try.prog.types.size)) = true := by kernel_rfl
  have hW' := hW
  obtain ⟨p, q, hA0, hV, rfl, hfz, hnd⟩ := hW
  have hA : DataW.TrodAll enc Try.prog W 0 (fun _ => true) true Try.f5.params.toList args.toList ds p := hA0
  rw [Try.params5] at hA hval
  obtain ⟨v0, vs0, d0, ds0, p0, q0, hargs, rfl, rfl, h0, r0⟩ := trodAll_cons hA
  obtain ⟨rfl, rfl, rfl⟩ := trodAll_nil r0
  obtain rfl : args = #[v0] := by cases args; simp_all
  obtain ⟨rfl, rfl⟩ := trodVars_none hV
  have hfn : Rows.wireReadsSpec.fn H ([d0] ++ []) = { results := [.lit (.bool true)], args := [d0] } := rfl
  have hfin := fun W' (hbel : Below W.heap.size W W') => law_post (f := Try.f5) (s := Rows.wireReadsSpec) 4 Try.laid hts rfl Try.underlying4 rfl hfn hW' hbel
  clear hA0 hts hfn
  obtain ⟨s0, rfl, rfl, rfl, w0⟩ := open_string Try.underlying9 (hval 0 9 v0 rfl rfl) h0
  simp only [List.append_nil] at hk
  have b0 : s0.size < 1048576 := bulk_string (bulk_mem hk _ (by simp))
  exact (walk s0 W (by omega)).mono fun e W' ⟨he, hg⟩ => ⟨_, he, hfin W' hg⟩

set_option maxRecDepth 100000 in
theorem lifted (os : Os) (started : os.Started) (H : Type) (enc : TypeId × Value → H) (F : Stop.Interp) :
    ReturnsInHanded {} Try.checked os 5 .any ((Rows.OpenSpec.upto Rows.wireReadsSpec).pre6 enc Try.prog Try.f5 Rows.wireReadsUptoRow.domain false) (((Rows.OpenSpec.upto Rows.wireReadsSpec).at F).post enc Try.prog Try.f5 false true false false) := by
  refine returnsInHanded_of_cond (C := Try.checked) (s := Rows.OpenSpec.upto Rows.wireReadsSpec) (k := Rows.uptoSmall) rfl Try.own started (by kernel_rfl) Try.func5
    (OpenSpec.witness (enc := enc) (C := Try.checked) (s := Rows.OpenSpec.upto Rows.wireReadsSpec) (k := Rows.uptoSmall) rfl false ⟨#[], #[.string .empty], []⟩ 8 (by kernel_rfl) (by kernel_rfl) (by kernel_rfl)
      (x := ([.lit (.string [])], [], [])) (by kernel_rfl) rfl (by kernel_rfl)) ?_
  intro W base args ds gs before hval hW _ hk _
  exact contract H enc W base args ds gs before hval hW hk

theorem proved : Rows.WireReadsUptoSaid :=
  OpenClaim.holds_of_cond 5 Try.f5 rfl rfl rfl rfl rfl rfl rfl ⟨rfl, rfl, rfl, rfl, rfl⟩ rfl rfl rfl rfl rfl (by kernel_rfl) Try.func5 (by kernel_rfl)
    (of_decide_eq_true (by kernel_rfl)) (by unfold Func.isWrapper; first | (rw [if_pos (by decide +kernel)]; kernel_rfl) | (rw [if_neg (by decide +kernel)]; exact ⟨rfl, rfl⟩))
    (fun os started H enc _ F => lifted os started H enc F)

end Go.Proofs.Ytcladlebmoefgaa.wireReads
