/- NumReads: num.Parse is the document's Parse, of any text, as a row and as a card: where what it reads is of bulk at most 1048576. -/
import Derived.Test.YtjlnbfpjlladoaaGreatDoorNumUpto
import Derived.Test.YtjlnbfpjlladoaaGreatDoorNumRParse
set_option maxRecDepth 100000
namespace Go.Proofs.YtjlnbfpjlladoaaGreatDoor.numReads
open Go.RowKit Go.WideShapes Go.ChangeShapes Go.ChangeAt
open Go.ChangeMaps (open_string shut_string)

set_option maxHeartbeats 4000000 in
set_option maxRecDepth 100000 in
theorem walk (s : ByteArray) (w : World) (hT : w.cell? TA = some (.int .u8 50)) (hT2 : TabsAt w) (hE : ErrAt w) (hs : s.size < 1048576) :
    Calls Tryz.prog 8 #[.string s] w fun e w' => e = .returned (.bool true) ∧ Below w.heap.size w w' := by
  have hG := Lib.hid (Below.refl w.heap.size w)
  have HT2 := Lib.hid hT2
  have HE := Lib.hid hE
  clear hT2 hE
  have hsl : s.data.toList.length = s.size := Array.length_toList
  have kq := fun w => parse_any (l := s.data.toList) (by omega) w
  have kr := fun w => rparse_any (l := s.data.toList) (by omega) w
  rw [str_list] at kq kr
  obtain ⟨V, hV⟩ : ∃ V, V = fparse s.data.toList := ⟨_, rfl⟩
  rw [← hV] at kq kr
  obtain ⟨e, he⟩ : ∃ v : Int, v = V.2 := ⟨_, rfl⟩
  obtain ⟨v, hv⟩ : ∃ v : Int, v = ((V.1 : Nat) : Int) := ⟨_, rfl⟩
  rw [← he, ← hv] at kq kr
  clear hV hsl hs he hv
  go_enter Tryz.func8, Tryz.ntmps8
  go_wp2_with (first | (go_at_call 9; refine (awake_any _ (cell_keeps hG.out hT)).mono ?_; rintro _ _ ⟨rfl, hb⟩; replace hG := Lib.hid (grow_trans hG.out hb); clear hb) | (go_at_call 36; (with_reducible (refine (kq _ (tabs_keep hG.out HT2.out) (err_keep hG.out HE.out)).mono ?_); rintro _ _ ⟨rfl, hb⟩; replace hG := Lib.hid (grow_trans hG.out hb); clear hb)) | (go_at_call 37; (with_reducible (refine (kr _).mono ?_); rintro _ _ ⟨rfl, hb⟩; replace hG := Lib.hid (grow_trans hG.out hb); clear hb)))
  go_ret
  exact ⟨by first | rfl | simp, hG.out⟩

-- LIFT
set_option maxRecDepth 100000 in
theorem contract (H : Type) (enc : TypeId × Value → H) (W : World) (base : Nat) (args : Array Value) (ds gs : List (DataW H)) (before : List MemPlace)
    (hval : ∀ (j : Nat) t v, Tryz.f8.params[j]? = some t → args[j]? = some v → Value.okWide Tryz.prog W .any base t v)
    (hW : DataW.Whole enc Tryz.prog Tryz.f8.params.toList Rows.numReadsSpec.vars false W args.toList ds gs before) (hk : Rows.uptoSmall H (ds ++ gs) = true) (hL : laidMetH Tryz.prog Rows.numReadsUptoRow.laid W) :
    Calls Tryz.prog 8 args W fun e W' => ∃ v, e = .returned v ∧ Rows.numReadsSpec.post enc Tryz.prog Tryz.f8 false true false false W args v W' := by
  have hT := cell_of (show laidMetH Tryz.prog laidOf W from hL)
  have hT2 := tabs_of (show laidMetH Tryz.prog laidOf W from hL)
  have hE := err_of (show laidMetH Tryz.prog laidOf W from hL)
  clear hL
  have hts : Tryz.f8.params.toList.all (fun t => Tryz.prog.readableRec t && decide (t < Tryz.prog.types.size)) = true := by kernel_rfl
  have hW' := hW
  obtain ⟨p, q, hA0, hV, rfl, hfz, hnd⟩ := hW
  have hA : DataW.TrodAll enc Tryz.prog W 0 (fun _ => true) true Tryz.f8.params.toList args.toList ds p := hA0
  rw [Tryz.params8] at hA hval
  obtain ⟨v0, vs0, d0, ds0, p0, q0, hargs, rfl, rfl, h0, r0⟩ := trodAll_cons hA
  obtain ⟨rfl, rfl, rfl⟩ := trodAll_nil r0
  obtain rfl : args = #[v0] := by cases args; simp_all
  obtain ⟨rfl, rfl⟩ := trodVars_none hV
  have hfn : Rows.numReadsSpec.fn H ([d0] ++ []) = { results := [.lit (.bool true)], args := [d0] } := rfl
  have hfin := fun W' (hbel : Below W.heap.size W W') => law_post (f := Tryz.f8) (s := Rows.numReadsSpec) 4 Tryz.laid hts rfl Tryz.underlying4 rfl hfn hW' hbel
  clear hA0 hts hfn
  obtain ⟨s0, rfl, rfl, rfl, w0⟩ := open_string Tryz.underlying9 (hval 0 9 v0 rfl rfl) h0
  simp only [List.append_nil] at hk
  have b0 : s0.size < 1048576 := bulk_string (bulk_mem hk _ (by simp))
  exact (walk s0 W hT hT2 hE b0).mono fun e W' ⟨he, hg⟩ => ⟨_, he, hfin W' hg⟩

theorem reads (os : Os) {H : Type} (enc : TypeId × Value → H) : ∃ places, DataW.whole enc Tryz.prog ((laidWorld os).forCall (fun _ _ => 0) ⟨#[], #[.string .empty], []⟩).memory Tryz.f8.params.toList Rows.numReadsSpec.vars false #[.string .empty].toList 8 = some ([.lit (.string [])], [], places) :=
  ⟨[], by kernel_rfl⟩
theorem laid_met (os : Os) : laidMet Tryz.prog Rows.numReadsUptoRow.laid ((laidWorld os).forCall (fun _ _ => 0) ⟨#[], #[.string .empty], []⟩).memory := laid_here os #[.string .empty]

set_option maxRecDepth 100000 in
theorem lifted (os : Os) (started : os.Started) (H : Type) (enc : TypeId × Value → H) (F : Stop.Interp) :
    ReturnsInHanded {} Tryz.checked os 8 .any ((Rows.OpenSpec.upto Rows.numReadsSpec).preRow enc Tryz.prog Tryz.f8 Rows.numReadsUptoRow.domain false Rows.numReadsUptoRow.laid) (((Rows.OpenSpec.upto Rows.numReadsSpec).at F).post enc Tryz.prog Tryz.f8 false true false false) := by
  obtain ⟨places, hx⟩ := reads os enc
  refine returnsInHanded_of_row (C := Tryz.checked) (s := Rows.OpenSpec.upto Rows.numReadsSpec) Tryz.own started (by kernel_rfl) Tryz.func8
    (witness_row_atRef (enc := enc) (C := Tryz.checked) false (laidWorld os) #[.string .empty] rfl (by kernel_rfl) (by kernel_rfl) (by kernel_rfl)
      (OpenSpec.preRow_of_cond 8 hx (by kernel_rfl) (fun k hk => by cases hk; kernel_rfl) (by kernel_rfl) (laid_met os))) ?_
  intro W base args ds gs before hval hW _ hk _ hL _ _
  exact contract H enc W base args ds gs before hval hW (hk _ rfl) hL

theorem said : Rows.NumReadsUptoSaid :=
  OpenClaim.holds_of_cond 8 Tryz.f8 rfl rfl rfl rfl rfl rfl rfl ⟨rfl, rfl, rfl, rfl, rfl⟩ rfl rfl rfl rfl rfl (by kernel_rfl) Tryz.func8 (by kernel_rfl)
    (of_decide_eq_true (by kernel_rfl)) (by unfold Func.isWrapper; first | (rw [if_pos (by decide +kernel)]; kernel_rfl) | (rw [if_neg (by decide +kernel)]; exact ⟨rfl, rfl⟩))
    (fun os started H enc _ F => by rw [OpenClaim.pre_eq_preRow]; exact lifted os started H enc F)

theorem plain (f : FuncId) (fn : Func) (hf : Tryz.pinned.checked.prog.funcNamed "gaffer/gafferlaw01.NumReads" = some f) (hfn : Tryz.pinned.checked.prog.funcs[f]? = some fn) :
    true = Tryz.pinned.checked.prog.looks [] ∧ ∀ (j : Nat) t, fn.params[j]? = some t → Tryz.pinned.checked.prog.wantsStandIn t = false := by
  obtain rfl : f = 8 := Option.some.inj ((show Tryz.prog.funcNamed "gaffer/gafferlaw01.NumReads" = some 8 by kernel_rfl).symm.trans hf) |>.symm
  obtain rfl : fn = Tryz.f8 := (Option.some.inj (Tryz.func8.symm.trans hfn)).symm
  refine ⟨by kernel_rfl, fun j t ht => ?_⟩
  rw [Tryz.params8] at ht
  have hm := Array.mem_of_getElem? ht
  simp only [List.mem_toArray, List.mem_cons, List.not_mem_nil, or_false] at hm
  rcases hm with rfl
  · exact (show Tryz.prog.wantsStandIn 9 = false by kernel_rfl)

theorem proved : Rows.NumReadsUptoCardSaid :=
  Claim7.holds_tied_plain_at .later [] _ _ _ _ said (fun _ h => by cases h) (by kernel_rfl) (fun _ h => by cases h) numReadsUpto_row_tie rfl ⟨rfl, rfl⟩ (by kernel_rfl) rfl plain (by kernel_rfl)

end Go.Proofs.YtjlnbfpjlladoaaGreatDoor.numReads
