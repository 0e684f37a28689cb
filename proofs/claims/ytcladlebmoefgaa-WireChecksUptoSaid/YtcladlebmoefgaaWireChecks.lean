/- WireChecks: wire.Check answers what the document says, for any message. Condition: the argument is of bulk at most 1048576. -/
import Derived.Test.YtcladlebmoefgaaWAwake
namespace Go.Proofs.Ytcladlebmoefgaa.wireChecks
open Go.RowKit Go.WideShapes Go.ChangeShapes Go.ChangeAt
open Go.ChangeMaps (open_string shut_string)

set_option maxHeartbeats 4000000 in
set_option maxRecDepth 100000 in
theorem walk (m : Mg) (w : World) (hfit : m.Fit) :
    Calls Try.prog 3 #[m.val] w fun e w' => e = .returned (.bool true) ∧ Below w.heap.size w w' := by
  obtain ⟨W, hW⟩ : ∃ W, W = w.alloc (.cells m.cells 26) := ⟨_, rfl⟩
  have hm : Ms W w.heap.size m := by rw [hW]; exact Cells.newAt _ _ _ _ rfl
  have hBW : Below w.heap.size w W := by rw [hW]; exact below_new0 _ _
  have HW := Lib.hid hW
  clear hW
  have h1 := fun wx => Check_any m wx hfit
  have h2 := fun wx => rCheck_any m wx hfit
  rw [rcheck_eq] at h2
  generalize m.check = C at h1 h2
  have H1 := Lib.hid h1
  have H2 := Lib.hid h2
  clear h1 h2
  obtain ⟨q0, q1, q2, q3, q4, q5, q6, q7, q8, q9, q10⟩ := Ms.all (Cells.drew hm)
  have HK := Lib.hid fun (wx wy : World) (hw : Below wx.heap.size wx wy) (h : wx.cell? ⟨w.heap.size, 0, none⟩ = some (.int .i64 m.kind) ∧ wx.cell? ⟨w.heap.size, 1, none⟩ = some (.int .i64 m.sess) ∧ wx.cell? ⟨w.heap.size, 2, none⟩ = some (.int .i64 m.num) ∧ wx.cell? ⟨w.heap.size, 3, none⟩ = some (.int .i64 m.job) ∧ wx.cell? ⟨w.heap.size, 4, none⟩ = some (.int .i64 m.badge) ∧ wx.cell? ⟨w.heap.size, 5, none⟩ = some (.int .i64 m.idx) ∧ wx.cell? ⟨w.heap.size, 6, none⟩ = some (.int .i64 m.cnt) ∧ wx.cell? ⟨w.heap.size, 7, none⟩ = some (.int .i64 m.code) ∧ wx.cell? ⟨w.heap.size, 8, none⟩ = some (.int .u64 m.bits) ∧ wx.cell? ⟨w.heap.size, 9, none⟩ = some (.string m.text) ∧ wx.cell? ⟨w.heap.size, 10, none⟩ = some (.string m.prog)) => (show wy.cell? ⟨w.heap.size, 0, none⟩ = some (.int .i64 m.kind) ∧ wy.cell? ⟨w.heap.size, 1, none⟩ = some (.int .i64 m.sess) ∧ wy.cell? ⟨w.heap.size, 2, none⟩ = some (.int .i64 m.num) ∧ wy.cell? ⟨w.heap.size, 3, none⟩ = some (.int .i64 m.job) ∧ wy.cell? ⟨w.heap.size, 4, none⟩ = some (.int .i64 m.badge) ∧ wy.cell? ⟨w.heap.size, 5, none⟩ = some (.int .i64 m.idx) ∧ wy.cell? ⟨w.heap.size, 6, none⟩ = some (.int .i64 m.cnt) ∧ wy.cell? ⟨w.heap.size, 7, none⟩ = some (.int .i64 m.code) ∧ wy.cell? ⟨w.heap.size, 8, none⟩ = some (.int .u64 m.bits) ∧ wy.cell? ⟨w.heap.size, 9, none⟩ = some (.string m.text) ∧ wy.cell? ⟨w.heap.size, 10, none⟩ = some (.string m.prog) from by
    obtain ⟨q0, q1, q2, q3, q4, q5, q6, q7, q8, q9, q10⟩ := h
    exact ⟨(hw.cell (World.block_lt_of_cell? _ _ q0)).trans q0, (hw.cell (World.block_lt_of_cell? _ _ q1)).trans q1, (hw.cell (World.block_lt_of_cell? _ _ q2)).trans q2, (hw.cell (World.block_lt_of_cell? _ _ q3)).trans q3, (hw.cell (World.block_lt_of_cell? _ _ q4)).trans q4, (hw.cell (World.block_lt_of_cell? _ _ q5)).trans q5, (hw.cell (World.block_lt_of_cell? _ _ q6)).trans q6, (hw.cell (World.block_lt_of_cell? _ _ q7)).trans q7, (hw.cell (World.block_lt_of_cell? _ _ q8)).trans q8, (hw.cell (World.block_lt_of_cell? _ _ q9)).trans q9, (hw.cell (World.block_lt_of_cell? _ _ q10)).trans q10⟩)
  have HBW := Lib.hid hBW
  clear hm hBW
  go_enter Try.func3, Try.ntmps3
  go_upto_region 1 with (fail)
  rw [← HW.out]
  go_region_held3 (fun w' => w'.cell? ⟨w.heap.size, 0, none⟩ = some (.int .i64 m.kind) ∧ w'.cell? ⟨w.heap.size, 1, none⟩ = some (.int .i64 m.sess) ∧ w'.cell? ⟨w.heap.size, 2, none⟩ = some (.int .i64 m.num) ∧ w'.cell? ⟨w.heap.size, 3, none⟩ = some (.int .i64 m.job) ∧ w'.cell? ⟨w.heap.size, 4, none⟩ = some (.int .i64 m.badge) ∧ w'.cell? ⟨w.heap.size, 5, none⟩ = some (.int .i64 m.idx) ∧ w'.cell? ⟨w.heap.size, 6, none⟩ = some (.int .i64 m.cnt) ∧ w'.cell? ⟨w.heap.size, 7, none⟩ = some (.int .i64 m.code) ∧ w'.cell? ⟨w.heap.size, 8, none⟩ = some (.int .u64 m.bits) ∧ w'.cell? ⟨w.heap.size, 9, none⟩ = some (.string m.text) ∧ w'.cell? ⟨w.heap.size, 10, none⟩ = some (.string m.prog)) ((first | exact ⟨q0, q1, q2, q3, q4, q5, q6, q7, q8, q9, q10⟩ | assumption | exact HK.out _ _ (by assumption) (by assumption)))
    (first | (go_at_call 10; refine (awake_any _).mono ?_; rintro x wa ⟨rfl, hba⟩) | (go_at_call 11; refine (H1.out _).mono ?_; rintro x wb ⟨rfl, hbb⟩) | (go_at_call 12; refine (H2.out _).mono ?_; rintro x wc ⟨rfl, hbc⟩))
  all_goals
    have hbx := Lib.hid (by first | exact hba.trans ((hbb.trans (hbc.mono hbb.size)).mono hba.size) | exact hba.trans ((hbc.trans (hbb.mono hbc.size)).mono hba.size) : Below W.drew.heap.size W.drew _)
    go_wp2
    go_ret
    exact ⟨rfl, (HBW.out.drew).trans (hbx.out.mono HBW.out.size)⟩

-- LIFT
set_option maxRecDepth 100000 in
theorem contract (H : Type) (enc : TypeId × Value → H) (W : World) (base : Nat) (args : Array Value) (ds gs : List (DataW H)) (before : List MemPlace)
    (hval : ∀ (j : Nat) t v, Try.f3.params[j]? = some t → args[j]? = some v → Value.okWide Try.prog W .any base t v)
    (hW : DataW.Whole enc Try.prog Try.f3.params.toList Rows.wireChecksSpec.vars false W args.toList ds gs before) (hk : Rows.uptoSmall H (ds ++ gs) = true) :
    Calls Try.prog 3 args W fun e W' => ∃ v, e = .returned v ∧ Rows.wireChecksSpec.post enc Try.prog Try.f3 false true false false W args v W' := by
  have hts : Try.f3.params.toList.all (fun t => Try.prog.readableRec t && decide (t < Try.prog.types.size)) = true := by kernel_rfl
  have hW' := hW
  obtain ⟨p, q, hA0, hV, rfl, hfz, hnd⟩ := hW
  have hA : DataW.TrodAll enc Try.prog W 0 (fun _ => true) true Try.f3.params.toList args.toList ds p := hA0
  rw [Try.params3] at hA hval
  obtain ⟨v0, vs0, d0, ds0, p0, q0, hargs, rfl, rfl, h0, r0⟩ := trodAll_cons hA
  obtain ⟨rfl, rfl, rfl⟩ := trodAll_nil r0
  obtain rfl : args = #[v0] := by cases args; simp_all
  obtain ⟨rfl, rfl⟩ := trodVars_none hV
  have hfn : Rows.wireChecksSpec.fn H ([d0] ++ []) = { results := [.lit (.bool true)], args := [d0] } := rfl
  have hfin := fun W' (hbel : Below W.heap.size W W') => law_post (f := Try.f3) (s := Rows.wireChecksSpec) 4 Try.laid hts rfl Try.underlying4 rfl hfn hW' hbel
  clear hA0 hts hfn
  simp only [List.append_nil] at hk
  obtain ⟨m0, rfl, fit0⟩ := open_msg (hval 0 26 v0 rfl rfl) h0 (bulk_mem hk _ (by simp))
  exact (walk m0 W fit0).mono fun e W' ⟨he, hg⟩ => ⟨_, he, hfin W' hg⟩

set_option maxRecDepth 100000 in
theorem lifted (os : Os) (started : os.Started) (H : Type) (enc : TypeId × Value → H) (F : Stop.Interp) :
    ReturnsInHanded {} Try.checked os 3 .any ((Rows.OpenSpec.upto Rows.wireChecksSpec).pre6 enc Try.prog Try.f3 Rows.wireChecksUptoRow.domain false) (((Rows.OpenSpec.upto Rows.wireChecksSpec).at F).post enc Try.prog Try.f3 false true false false) := by
  refine returnsInHanded_of_cond (C := Try.checked) (s := Rows.OpenSpec.upto Rows.wireChecksSpec) (k := Rows.uptoSmall) rfl Try.own started (by kernel_rfl) Try.func3
    (OpenSpec.witness (enc := enc) (C := Try.checked) (s := Rows.OpenSpec.upto Rows.wireChecksSpec) (k := Rows.uptoSmall) rfl false ⟨#[], #[.agg #[.int .i64 0, .int .i64 0, .int .i64 0, .int .i64 0, .int .i64 0, .int .i64 0, .int .i64 0, .int .i64 0, .int .u64 0, .string .empty, .string .empty]], []⟩ 8 (by kernel_rfl) (by kernel_rfl) (by kernel_rfl)
      (x := ([.agg [.lit (.int .i64 0), .lit (.int .i64 0), .lit (.int .i64 0), .lit (.int .i64 0), .lit (.int .i64 0), .lit (.int .i64 0), .lit (.int .i64 0), .agg [.lit (.int .i64 0), .lit (.int .u64 0)], .lit (.string []), .lit (.string [])]], [], [])) (by kernel_rfl) rfl (by kernel_rfl)) ?_
  intro W base args ds gs before hval hW _ hk _
  exact contract H enc W base args ds gs before hval hW hk

theorem proved : Rows.WireChecksUptoSaid :=
  OpenClaim.holds_of_cond 3 Try.f3 rfl rfl rfl rfl rfl rfl rfl ⟨rfl, rfl, rfl, rfl, rfl⟩ rfl rfl rfl rfl rfl (by kernel_rfl) Try.func3 (by kernel_rfl)
    (of_decide_eq_true (by kernel_rfl)) (by unfold Func.isWrapper; first | (rw [if_pos (by decide +kernel)]; kernel_rfl) | (rw [if_neg (by decide +kernel)]; exact ⟨rfl, rfl⟩))
    (fun os started H enc _ F => lifted os started H enc F)

end Go.Proofs.Ytcladlebmoefgaa.wireChecks
