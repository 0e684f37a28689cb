/- ProgPrints: a program's text is the document's: as a row and as a card. -/
import Derived.Test.YtiidkgdlngcpgaaGreatDoorPv
import Derived.Test.YtiidkgdlngcpgaaGreatDoorPt
set_option maxRecDepth 100000
namespace Go.Proofs.YtiidkgdlngcpgaaGreatDoor.progPrints
open Go.RowKit Go.WideShapes Go.ChangeShapes Go.ChangeAt Ieee

set_option maxHeartbeats 4000000 in
set_option maxRecDepth 100000 in
theorem walk {fuel : Int} {A : Option Addr} {l : List Ins} {cap : Nat} (w : World) (hC : CodeIn w w.heap.size A l) (hA : AllAt w) :
    Calls Tryz.prog 4 #[.agg #[.int .i64 fuel, .slice A l.length cap]] w fun e w' => e = .returned (.bool true) ∧ Below w.heap.size w w' := by
  have HX := Lib.hid (Cells.new w 24 #[.int .i64 fuel, .slice A l.length cap])
  have HB := Lib.hid ((Below.refl w.heap.size w).alloc (Nat.le_refl _) (.cells #[.int .i64 fuel, .slice A l.length cap] 24))
  have x0 := HX.out.cell (j := 0) rfl
  have x1 := HX.out.cell (j := 1) rfl
  have HKA : Hid (∀ W, Below w.heap.size w W → Calls Tryz.prog 14 #[] W fun e w' => e = .returned (.bool true) ∧ Below W.heap.size W w') := Lib.hid fun W hW => awake_any W (hA.keep hW)
  have HK1 : Hid (∀ W, Below w.heap.size w W → Calls Tryz.prog 15 #[.agg #[.int .i64 fuel, .slice A l.length cap]] W fun e w' => e = .returned (.tuple #[.string (if (progCheck fuel l).1 = 0 then strOf (progText fuel.toNat l) else ⟨#[]⟩), .int .i64 (progCheck fuel l).1]) ∧ Below W.heap.size W w') := Lib.hid fun W hW => print_any fuel A l cap W ((hC.keep hW).more hW.size) (code_k hC) (hA.keep hW).tabs
  have HK2 : Hid (∀ W, Below w.heap.size w W → Calls Tryz.prog 16 #[.agg #[.int .i64 fuel, .slice A l.length cap]] W fun e w' => e = .returned (.tuple #[.string (if (progCheck fuel l).1 = 0 then strOf (progText fuel.toNat l) else ⟨#[]⟩), .int .i64 (progCheck fuel l).1]) ∧ Below W.heap.size W w') := Lib.hid fun W hW => rprint_any fuel A l cap W ((hC.keep hW).more hW.size) (code_k hC)
  clear hC hA
  generalize (if (progCheck fuel l).1 = 0 then strOf (progText fuel.toNat l) else ⟨#[]⟩) = SB at *
  generalize (progCheck fuel l).1 = er at *
  generalize l.length = len at *
  go_enter Tryz.func4, Tryz.ntmps4
  go_wp2_with (first | (go_at_call 15; refine (HK1.out _ HB.out).mono ?_; rintro _ wn ⟨rfl, hb⟩; have HX := Lib.hid (HX.out.keep hb); have x0 := HX.out.cell (j := 0) rfl; have x1 := HX.out.cell (j := 1) rfl; have HB := Lib.hid (grow_to HB.out hb); clear hb) | (go_at_call 16; refine (HK2.out _ HB.out).mono ?_; rintro _ wn ⟨rfl, hb⟩; have HX := Lib.hid (HX.out.keep hb); have x0 := HX.out.cell (j := 0) rfl; have x1 := HX.out.cell (j := 1) rfl; have HB := Lib.hid (grow_to HB.out hb); clear hb) | (go_at_call 14; refine (HKA.out _ HB.out).mono ?_; rintro _ wn ⟨rfl, hb⟩; have HB := Lib.hid (grow_to HB.out hb); clear hb))
  go_ret
  exact ⟨by first | rfl | simp, HB.out⟩

-- LIFT
set_option maxRecDepth 100000 in
theorem contract (H : Type) (enc : TypeId × Value → H) (W : World) (base : Nat) (args : Array Value) (ds gs : List (DataW H)) (before : List MemPlace)
    (hval : ∀ (j : Nat) t v, Tryz.f4.params[j]? = some t → args[j]? = some v → Value.okWide Tryz.prog W .any base t v)
    (hW : DataW.Whole enc Tryz.prog Tryz.f4.params.toList Rows.progPrintsSpec.vars false W args.toList ds gs before) (hL : laidMetH Tryz.prog Rows.progPrintsRow.laid W) :
    Calls Tryz.prog 4 args W fun e W' => ∃ v, e = .returned v ∧ Rows.progPrintsSpec.post enc Tryz.prog Tryz.f4 false true false false W args v W' := by
  have hT0 := tabs_of (show laidMetH Tryz.prog laidOf W from hL)
  have hT : ∀ wz, Below W.heap.size W wz → TabsAt wz := fun wz hz => tabs_keep hz hT0
  have hAll := all_of (show laidMetH Tryz.prog laidOf W from hL)
  clear hL
  have hts : Tryz.f4.params.toList.all (fun t => Tryz.prog.readableRec t && decide (t < Tryz.prog.types.size)) = true := by kernel_rfl
  have hW' := hW
  obtain ⟨p, q, hA0, hV, rfl, hfz, hnd⟩ := hW
  have hA : DataW.TrodAll enc Tryz.prog W 0 (fun _ => true) true Tryz.f4.params.toList args.toList ds p := hA0
  rw [Tryz.params4] at hA hval
  obtain ⟨v0, vs0, d0, ds0, p0, q0, hargs, rfl, rfl, h0, r0⟩ := trodAll_cons hA
  obtain ⟨rfl, rfl, rfl⟩ := trodAll_nil r0
  obtain rfl : args = #[v0] := by cases args; simp_all
  obtain ⟨rfl, rfl⟩ := trodVars_none hV
  have hfn : Rows.progPrintsSpec.fn H ([d0] ++ []) = { results := [.lit (.bool true)], args := [d0] } := rfl
  have hfin := fun W' (hbel : Below W.heap.size W W') => law_post (f := Tryz.f4) (s := Rows.progPrintsSpec) 4 Tryz.laid hts rfl Tryz.underlying4 rfl hfn hW' hbel
  clear hA0 hts hfn
  obtain ⟨fu0, A0, l0, c0, rfl, hC0, hf0, hg0⟩ := open_prog (hval 0 24 v0 rfl rfl) h0
  exact (walk W hC0 hAll).mono fun e W' ⟨he, hg⟩ => ⟨_, he, hfin W' hg⟩

theorem reads (os : Os) {H : Type} (enc : TypeId × Value → H) : ∃ places, DataW.whole enc Tryz.prog ((laidWorld os).forCall (fun _ _ => 0) ⟨#[], #[.agg #[.int .i64 0, .slice none 0 0]], []⟩).memory Tryz.f4.params.toList Rows.progPrintsSpec.vars false #[.agg #[.int .i64 0, .slice none 0 0]].toList 8 = some ([.agg [.lit (.int .i64 0), .nil]], [], places) :=
  ⟨[], by kernel_rfl⟩
theorem laid_met (os : Os) : laidMet Tryz.prog Rows.progPrintsRow.laid ((laidWorld os).forCall (fun _ _ => 0) ⟨#[], #[.agg #[.int .i64 0, .slice none 0 0]], []⟩).memory := laid_here os #[.agg #[.int .i64 0, .slice none 0 0]]

set_option maxRecDepth 100000 in
theorem lifted (os : Os) (started : os.Started) (H : Type) (enc : TypeId × Value → H) (F : Stop.Interp) :
    ReturnsInHanded {} Tryz.checked os 4 .any ((OpenSpec.ofChange Rows.progPrintsSpec).preRow enc Tryz.prog Tryz.f4 Rows.progPrintsRow.domain false Rows.progPrintsRow.laid) (((OpenSpec.ofChange Rows.progPrintsSpec).at F).post enc Tryz.prog Tryz.f4 false true false false) := by
  obtain ⟨places, hx⟩ := reads os enc
  refine returnsInHanded_of_row (C := Tryz.checked) (s := OpenSpec.ofChange Rows.progPrintsSpec) Tryz.own started (by kernel_rfl) Tryz.func4
    (witness_row_atRef (enc := enc) (C := Tryz.checked) false (laidWorld os) #[.agg #[.int .i64 0, .slice none 0 0]] rfl (by kernel_rfl) (by kernel_rfl) (by kernel_rfl)
      (OpenSpec.preRow_of_cond 8 hx (by kernel_rfl) (fun k hk => by cases hk) (by kernel_rfl) (laid_met os))) ?_
  intro W base args ds gs before hval hW _ _ _ hL _ _
  exact contract H enc W base args ds gs before hval hW hL

theorem said : Rows.ProgPrintsSaid :=
  OpenClaim.holds_of_cond 4 Tryz.f4 rfl rfl rfl rfl rfl rfl rfl ⟨rfl, rfl, rfl, rfl, rfl⟩ rfl rfl rfl rfl rfl (by kernel_rfl) Tryz.func4 (by kernel_rfl)
    (of_decide_eq_true (by kernel_rfl)) (by unfold Func.isWrapper; first | (rw [if_pos (by decide +kernel)]; kernel_rfl) | (rw [if_neg (by decide +kernel)]; exact ⟨rfl, rfl⟩))
    (fun os started H enc _ F => by rw [OpenClaim.pre_eq_preRow]; exact lifted os started H enc F)

theorem plain (f : FuncId) (fn : Func) (hf : Tryz.pinned.checked.prog.funcNamed "gaffer/gafferlaw05.ProgPrints" = some f) (hfn : Tryz.pinned.checked.prog.funcs[f]? = some fn) :
    true = Tryz.pinned.checked.prog.looks [] ∧ ∀ (j : Nat) t, fn.params[j]? = some t → Tryz.pinned.checked.prog.wantsStandIn t = false := by
  obtain rfl : f = 4 := Option.some.inj ((show Tryz.prog.funcNamed "gaffer/gafferlaw05.ProgPrints" = some 4 by kernel_rfl).symm.trans hf) |>.symm
  obtain rfl : fn = Tryz.f4 := (Option.some.inj (Tryz.func4.symm.trans hfn)).symm
  refine ⟨by kernel_rfl, fun j t ht => ?_⟩
  rw [Tryz.params4] at ht
  have hm := Array.mem_of_getElem? ht
  simp only [List.mem_toArray, List.mem_cons, List.not_mem_nil, or_false] at hm
  rcases hm with rfl
  · exact (show Tryz.prog.wantsStandIn 24 = false by kernel_rfl)

theorem proved : Rows.ProgPrintsCardSaid :=
  Claim7.holds_tied_plain_at .later [] _ _ _ _ said (fun _ h => by cases h) (by kernel_rfl) (fun _ h => by cases h) progPrints_row_tie rfl ⟨rfl, rfl⟩ (by kernel_rfl) rfl plain (by kernel_rfl)

end Go.Proofs.YtiidkgdlngcpgaaGreatDoor.progPrints
