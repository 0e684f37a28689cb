/- ProgBack: THE STAGE'S THEOREM: programs that may be are read as what they were, as texts and as bytes: as a row and as a card. -/
import Derived.Test.YtiidkgdlngcpgaaGreatDoorPv
set_option maxRecDepth 100000
namespace Go.Proofs.YtiidkgdlngcpgaaGreatDoor.progBack
open Go.RowKit Go.WideShapes Go.ChangeShapes Go.ChangeAt Ieee

set_option maxHeartbeats 4000000 in
set_option maxRecDepth 100000 in
theorem walk_bad {fuel : Int} {A : Option Addr} {l : List Ins} {cap : Nat} (w : World) (hC : CodeIn w w.heap.size A l) (hA : AllAt w) (hne : (progCheck fuel l).1 ≠ 0) :
    Calls Tryz.prog 8 #[.agg #[.int .i64 fuel, .slice A l.length cap]] w fun e w' => e = .returned (.bool true) ∧ Below w.heap.size w w' := by
  have HX := Lib.hid (Cells.new w 24 #[.int .i64 fuel, .slice A l.length cap])
  have HB := Lib.hid ((Below.refl w.heap.size w).alloc (Nat.le_refl _) (.cells #[.int .i64 fuel, .slice A l.length cap] 24))
  have x0 := HX.out.cell (j := 0) rfl
  have x1 := HX.out.cell (j := 1) rfl
  have HKA : Hid (∀ W, Below w.heap.size w W → Calls Tryz.prog 14 #[] W fun e w' => e = .returned (.bool true) ∧ Below W.heap.size W w') := Lib.hid fun W hW => awake_any W (hA.keep hW)
  have HK1 : Hid (∀ W, Below w.heap.size w W → Calls Tryz.prog 12 #[.agg #[.int .i64 fuel, .slice A l.length cap]] W fun e w' => e = .returned (.tuple #[.int .i64 (progCheck fuel l).1, .int .i64 ((progCheck fuel l).2 : Nat)]) ∧ Below W.heap.size W w') := Lib.hid fun W hW => check_any fuel A l cap W ((hC.keep hW).more hW.size)
  have HK2 : Hid (∀ W, Below w.heap.size w W → Calls Tryz.prog 15 #[.agg #[.int .i64 fuel, .slice A l.length cap]] W fun e w' => e = .returned (.tuple #[.string (if (progCheck fuel l).1 = 0 then strOf (progText fuel.toNat l) else ⟨#[]⟩), .int .i64 (progCheck fuel l).1]) ∧ Below W.heap.size W w') := Lib.hid fun W hW => print_any fuel A l cap W ((hC.keep hW).more hW.size) (code_k hC) (hA.keep hW).tabs
  have HK3 : Hid (∀ W, Below w.heap.size w W → Calls Tryz.prog 21 #[.agg #[.int .i64 fuel, .slice A l.length cap]] W fun e w' => e = .returned (.tuple #[.string (if (progCheck fuel l).1 = 0 then str (progB fuel.toNat l) else ⟨#[]⟩), .int .i64 (progCheck fuel l).1]) ∧ Below W.heap.size W w') := Lib.hid fun W hW => pack_any fuel A l cap W ((hC.keep hW).more hW.size) (code_k hC)
  rw [if_neg hne] at HK2 HK3
  have t1 : ((progCheck fuel l).1 != 0) = true := by rw [bne_iff_ne]; exact hne
  have t2 : ((progCheck fuel l).1 == 0) = false := by rw [beq_eq_false_iff_ne]; exact hne
  clear hC hA hne
  generalize (progCheck fuel l).1 = er at *
  generalize (progCheck fuel l).2 = at_ at *
  generalize l.length = len at *
  have t3 : (er != er) = false := by rw [bne_eq_false_iff_eq]
  go_enter Tryz.func8, Tryz.ntmps8
  go_wp2_with (first | (go_at_call 12; refine (HK1.out _ HB.out).mono ?_; rintro _ wn ⟨rfl, hb⟩; have HX := Lib.hid (HX.out.keep hb); have x0 := HX.out.cell (j := 0) rfl; have x1 := HX.out.cell (j := 1) rfl; have HB := Lib.hid (grow_to HB.out hb); clear hb) | (go_at_call 15; refine (HK2.out _ HB.out).mono ?_; rintro _ wn ⟨rfl, hb⟩; have HX := Lib.hid (HX.out.keep hb); have x0 := HX.out.cell (j := 0) rfl; have x1 := HX.out.cell (j := 1) rfl; have HB := Lib.hid (grow_to HB.out hb); clear hb) | (go_at_call 21; refine (HK3.out _ HB.out).mono ?_; rintro _ wn ⟨rfl, hb⟩; have HX := Lib.hid (HX.out.keep hb); have x0 := HX.out.cell (j := 0) rfl; have x1 := HX.out.cell (j := 1) rfl; have HB := Lib.hid (grow_to HB.out hb); clear hb) | (go_at_call 14; refine (HKA.out _ HB.out).mono ?_; rintro _ wn ⟨rfl, hb⟩; have HX := Lib.hid (HX.out.keep hb); have x0 := HX.out.cell (j := 0) rfl; have x1 := HX.out.cell (j := 1) rfl; have HB := Lib.hid (grow_to HB.out hb); clear hb))
  go_ret
  exact ⟨by first | rfl | simp, HB.out⟩
set_option maxHeartbeats 8000000 in
set_option maxRecDepth 100000 in
theorem walk_good {fuel : Int} {A : Option Addr} {l : List Ins} {cap : Nat} (w : World) (hC : CodeIn w w.heap.size A l) (hA : AllAt w) (h0 : (progCheck fuel l).1 = 0) :
    Calls Tryz.prog 8 #[.agg #[.int .i64 fuel, .slice A l.length cap]] w fun e w' => e = .returned (.bool true) ∧ Below w.heap.size w w' := by
  have HX := Lib.hid (Cells.new w 24 #[.int .i64 fuel, .slice A l.length cap])
  have HB := Lib.hid ((Below.refl w.heap.size w).alloc (Nat.le_refl _) (.cells #[.int .i64 fuel, .slice A l.length cap] 24))
  have x0 := HX.out.cell (j := 0) rfl
  have x1 := HX.out.cell (j := 1) rfl
  have HKA : Hid (∀ W, Below w.heap.size w W → Calls Tryz.prog 14 #[] W fun e w' => e = .returned (.bool true) ∧ Below W.heap.size W w') := Lib.hid fun W hW => awake_any W (hA.keep hW)
  have HK1 : Hid (∀ W, Below w.heap.size w W → Calls Tryz.prog 12 #[.agg #[.int .i64 fuel, .slice A l.length cap]] W fun e w' => e = .returned (.tuple #[.int .i64 (progCheck fuel l).1, .int .i64 ((progCheck fuel l).2 : Nat)]) ∧ Below W.heap.size W w') := Lib.hid fun W hW => check_any fuel A l cap W ((hC.keep hW).more hW.size)
  have HK2 : Hid (∀ W, Below w.heap.size w W → Calls Tryz.prog 15 #[.agg #[.int .i64 fuel, .slice A l.length cap]] W fun e w' => e = .returned (.tuple #[.string (if (progCheck fuel l).1 = 0 then strOf (progText fuel.toNat l) else ⟨#[]⟩), .int .i64 (progCheck fuel l).1]) ∧ Below W.heap.size W w') := Lib.hid fun W hW => print_any fuel A l cap W ((hC.keep hW).more hW.size) (code_k hC) (hA.keep hW).tabs
  have HK3 : Hid (∀ W, Below w.heap.size w W → Calls Tryz.prog 21 #[.agg #[.int .i64 fuel, .slice A l.length cap]] W fun e w' => e = .returned (.tuple #[.string (if (progCheck fuel l).1 = 0 then str (progB fuel.toNat l) else ⟨#[]⟩), .int .i64 (progCheck fuel l).1]) ∧ Below W.heap.size W w') := Lib.hid fun W hW => pack_any fuel A l cap W ((hC.keep hW).more hW.size) (code_k hC)
  obtain ⟨hf, hl1, hl2⟩ := prog_range h0
  obtain ⟨fn, rfl⟩ := Int.eq_ofNat_of_zero_le (show 0 ≤ fuel by omega)
  have hk := code_k hC
  rw [h0] at HK1
  rw [if_pos h0, h0, show ((fn : Int).toNat) = fn from Int.toNat_natCast fn] at HK2 HK3
  have HKR : Hid (∀ W, Below w.heap.size w W → Calls Tryz.prog 17 #[.string (strOf (progText fn l))] W fun e w' => ((∃ Aq cq, e = .returned (.tuple #[.agg #[.int .i64 (fn : Nat), .slice Aq l.length cq], .int .i64 0, .int .i64 0]) ∧ CodeIn w' w'.heap.size Aq l) ∧ True) ∧ Below W.heap.size W w') := Lib.hid fun W hW => by
    have hle : (progText fn l).length < 1073741824 := by
      have hh := headT_le (fuel := fn) (by omega) hl2 (fun x hx => ⟨(prog_full h0 hk x hx).1, by have := (prog_full h0 hk x hx).2; omega⟩) l.length
      rw [headT_all _ (Nat.le_refl _)] at hh
      omega
    have k := pparse_any (progText fn l) hle W (hA.keep hW)
    unfold ParseOut at k
    rw [parse_print h0 hk] at k
    refine k.mono ?_
    rintro e w' ⟨⟨Aq, cq, h1, h2, h3⟩, hb⟩
    exact ⟨⟨⟨Aq, cq, h1, h2.code h3⟩, trivial⟩, hb⟩
  have HKU : Hid (∀ W, Below w.heap.size w W → Calls Tryz.prog 23 #[.string (str (progB fn l))] W fun e w' => ((∃ Aq cq, e = .returned (.tuple #[.agg #[.int .i64 (fn : Nat), .slice Aq l.length cq], .int .i64 0]) ∧ CodeIn w' w'.heap.size Aq l) ∧ True) ∧ Below W.heap.size W w') := Lib.hid fun W _ => by
    have k := unpack_any (progB fn l) (by have := progB_le h0 hk; omega) W
    unfold UnpackOut at k
    rw [unpack_pack h0 hk] at k
    refine k.mono ?_
    rintro e w' ⟨⟨Aq, cq, h1, h2, h3⟩, hb⟩
    exact ⟨⟨⟨Aq, cq, h1, h2.code h3⟩, trivial⟩, hb⟩
  have HKS : Hid (∀ (W : World) (A1 A2 : Option Addr) (n1 n2 : Nat), CodeIn W W.heap.size A1 l → CodeIn W W.heap.size A2 l → Calls Tryz.prog 19 #[.agg #[.int .i64 (fn : Nat), .slice A1 l.length n1], .agg #[.int .i64 (fn : Nat), .slice A2 l.length n2]] W fun e w' => e = .returned (.bool true) ∧ Below W.heap.size W w') := Lib.hid fun W A1 A2 n1 n2 h1 h2 => by
    have k := same_any fn fn A1 A2 l l n1 n2 W h1 h2 (by omega)
    rw [decide_eq_true ⟨rfl, rfl⟩] at k
    exact k
  have hsz : ((str (progB fn l)).size : Int) ≤ 1024 := by rw [str_size]; have := progB_le h0 hk; omega
  have HC := Lib.hid ((hC.keep HB.out).more HB.out.size)
  clear hC hA h0 hk hf hl1 hl2
  generalize (progCheck (fn : Nat) l).2 = at_ at *
  generalize strOf (progText fn l) = SP at *
  generalize str (progB fn l) = SB at *
  go_enter Tryz.func8, Tryz.ntmps8
  go_upto_region 8 with (first | (go_at_call 12; refine (HK1.out _ HB.out).mono ?_; rintro _ wn ⟨rfl, hb⟩; have HX := Lib.hid (HX.out.keep hb); have x0 := HX.out.cell (j := 0) rfl; have x1 := HX.out.cell (j := 1) rfl; have HC := Lib.hid ((HC.out.keep hb).more hb.size); have HB := Lib.hid (grow_to HB.out hb); clear hb) | (go_at_call 15; refine (HK2.out _ HB.out).mono ?_; rintro _ wn ⟨rfl, hb⟩; have HX := Lib.hid (HX.out.keep hb); have x0 := HX.out.cell (j := 0) rfl; have x1 := HX.out.cell (j := 1) rfl; have HC := Lib.hid ((HC.out.keep hb).more hb.size); have HB := Lib.hid (grow_to HB.out hb); clear hb) | (go_at_call 21; refine (HK3.out _ HB.out).mono ?_; rintro _ wn ⟨rfl, hb⟩; have HX := Lib.hid (HX.out.keep hb); have x0 := HX.out.cell (j := 0) rfl; have x1 := HX.out.cell (j := 1) rfl; have HC := Lib.hid ((HC.out.keep hb).more hb.size); have HB := Lib.hid (grow_to HB.out hb); clear hb) | (go_at_call 14; refine (HKA.out _ HB.out).mono ?_; rintro _ wn ⟨rfl, hb⟩; have HX := Lib.hid (HX.out.keep hb); have x0 := HX.out.cell (j := 0) rfl; have x1 := HX.out.cell (j := 1) rfl; have HC := Lib.hid ((HC.out.keep hb).more hb.size); have HB := Lib.hid (grow_to HB.out hb); clear hb))
  go_upto_region 9 with (go_at_call 17; refine (HKR.out _ HB.out).mono ?_; rintro _ wn ⟨⟨⟨Aq, cq, rfl, hcq⟩, _⟩, hb⟩; have HX := Lib.hid (HX.out.keep hb); have x0 := HX.out.cell (j := 0) rfl; have x1 := HX.out.cell (j := 1) rfl; have HC := Lib.hid ((HC.out.keep hb).more hb.size); have HCq := Lib.hid hcq; clear hcq; have HB := Lib.hid (grow_to HB.out hb); clear hb)
  have HAL := Lib.hid ((Below.refl wn.heap.size wn).alloc (Nat.le_refl _) (.cells #[.int .i64 (fn : Nat), .slice Aq l.length cq] 24))
  have HXq := Lib.hid (Cells.new wn 24 #[.int .i64 (fn : Nat), .slice Aq l.length cq])
  replace HC := Lib.hid ((HC.out.keep HAL.out).more HAL.out.size)
  replace HCq := Lib.hid ((HCq.out.keep HAL.out).more HAL.out.size)
  replace HX := Lib.hid (HX.out.keep HAL.out)
  replace HB := Lib.hid (grow_to HB.out HAL.out)
  clear x0 x1 HAL
  generalize wn.alloc (.cells #[.int .i64 (fn : Nat), .slice Aq l.length cq] 24) = w5 at *
  generalize wn.heap.size = Bq at *
  go_upto_region 10 with (go_at_call 23; refine (HKU.out _ HB.out).mono ?_; rintro _ wm ⟨⟨⟨Ar, cr, rfl, hcr⟩, _⟩, hb⟩; have HX := Lib.hid (HX.out.keep hb); have HXq := Lib.hid (HXq.out.keep hb); have HC := Lib.hid ((HC.out.keep hb).more hb.size); have HCq := Lib.hid ((HCq.out.keep hb).more hb.size); have HCr := Lib.hid hcr; have HB := Lib.hid (grow_to HB.out hb); clear hcr hb)
  have HAL := Lib.hid ((Below.refl wm.heap.size wm).alloc (Nat.le_refl _) (.cells #[.int .i64 (fn : Nat), .slice Ar l.length cr] 24))
  have HXr := Lib.hid (Cells.new wm 24 #[.int .i64 (fn : Nat), .slice Ar l.length cr])
  replace HC := Lib.hid ((HC.out.keep HAL.out).more HAL.out.size)
  replace HCq := Lib.hid ((HCq.out.keep HAL.out).more HAL.out.size)
  replace HCr := Lib.hid ((HCr.out.keep HAL.out).more HAL.out.size)
  replace HX := Lib.hid (HX.out.keep HAL.out)
  replace HXq := Lib.hid (HXq.out.keep HAL.out)
  replace HB := Lib.hid (grow_to HB.out HAL.out)
  clear HAL
  generalize wm.alloc (.cells #[.int .i64 (fn : Nat), .slice Ar l.length cr] 24) = w7 at *
  generalize wm.heap.size = Br at *
  have x0 := HX.out.cell (j := 0) rfl
  have x1 := HX.out.cell (j := 1) rfl
  have y0 := HXq.out.cell (j := 0) rfl
  have y1 := HXq.out.cell (j := 1) rfl
  go_wp2_with (first
    | (go_at_call 19; refine (HKS.out _ A Aq cap cq HC.out HCq.out).mono ?_; rintro _ wk ⟨rfl, hb⟩; have HX := Lib.hid (HX.out.keep hb); have HXr := Lib.hid (HXr.out.keep hb); have HC2 := Lib.hid ((HC.out.keep hb).more hb.size); have HCr2 := Lib.hid ((HCr.out.keep hb).more hb.size); have HB := Lib.hid (grow_to HB.out hb); have u0 := HX.out.cell (j := 0) rfl; have u1 := HX.out.cell (j := 1) rfl; have v0 := HXr.out.cell (j := 0) rfl; have v1 := HXr.out.cell (j := 1) rfl; clear hb HCq)
    | (go_at_call 19; refine (HKS.out _ A Ar cap cr HC2.out HCr2.out).mono ?_; rintro _ wj ⟨rfl, hb⟩; have HB := Lib.hid (grow_to HB.out hb); clear hb))
  go_ret
  exact ⟨by first | rfl | simp, HB.out⟩
theorem walk {fuel : Int} {A : Option Addr} {l : List Ins} {cap : Nat} (w : World) (hC : CodeIn w w.heap.size A l) (hA : AllAt w) :
    Calls Tryz.prog 8 #[.agg #[.int .i64 fuel, .slice A l.length cap]] w fun e w' => e = .returned (.bool true) ∧ Below w.heap.size w w' := by
  by_cases h : (progCheck fuel l).1 = 0
  · exact walk_good w hC hA h
  · exact walk_bad w hC hA h

-- LIFT
set_option maxRecDepth 100000 in
theorem contract (H : Type) (enc : TypeId × Value → H) (W : World) (base : Nat) (args : Array Value) (ds gs : List (DataW H)) (before : List MemPlace)
    (hval : ∀ (j : Nat) t v, Tryz.f8.params[j]? = some t → args[j]? = some v → Value.okWide Tryz.prog W .any base t v)
    (hW : DataW.Whole enc Tryz.prog Tryz.f8.params.toList Rows.progBackSpec.vars false W args.toList ds gs before) (hL : laidMetH Tryz.prog Rows.progBackRow.laid W) :
    Calls Tryz.prog 8 args W fun e W' => ∃ v, e = .returned v ∧ Rows.progBackSpec.post enc Tryz.prog Tryz.f8 false true false false W args v W' := by
  have hT0 := tabs_of (show laidMetH Tryz.prog laidOf W from hL)
  have hT : ∀ wz, Below W.heap.size W wz → TabsAt wz := fun wz hz => tabs_keep hz hT0
  have hAll := all_of (show laidMetH Tryz.prog laidOf W from hL)
  clear hL
  have hts : Tryz.f8.params.toList.all (fun t => Tryz.prog.readableRec t && decide (t < Tryz.prog.types.size)) = true := by kernel_rfl
  have hW' := hW
  obtain ⟨p, q, hA0, hV, rfl, hfz, hnd⟩ := hW
  have hA : DataW.TrodAll enc Tryz.prog W 0 (fun _ => true) true Tryz.f8.params.toList args.toList ds p := hA0
  rw [Tryz.params8] at hA hval
  obtain ⟨v0, vs0, d0, ds0, p0, q0, hargs, rfl, rfl, h0, r0⟩ := trodAll_cons hA
  obtain ⟨rfl, rfl, rfl⟩ := trodAll_nil r0
  obtain rfl : args = #[v0] := by cases args; simp_all
  obtain ⟨rfl, rfl⟩ := trodVars_none hV
  have hfn : Rows.progBackSpec.fn H ([d0] ++ []) = { results := [.lit (.bool true)], args := [d0] } := rfl
  have hfin := fun W' (hbel : Below W.heap.size W W') => law_post (f := Tryz.f8) (s := Rows.progBackSpec) 4 Tryz.laid hts rfl Tryz.underlying4 rfl hfn hW' hbel
  clear hA0 hts hfn
  obtain ⟨fu0, A0, l0, c0, rfl, hC0, hf0, hg0⟩ := open_prog (hval 0 24 v0 rfl rfl) h0
  exact (walk W hC0 hAll).mono fun e W' ⟨he, hg⟩ => ⟨_, he, hfin W' hg⟩

theorem reads (os : Os) {H : Type} (enc : TypeId × Value → H) : ∃ places, DataW.whole enc Tryz.prog ((laidWorld os).forCall (fun _ _ => 0) ⟨#[], #[.agg #[.int .i64 0, .slice none 0 0]], []⟩).memory Tryz.f8.params.toList Rows.progBackSpec.vars false #[.agg #[.int .i64 0, .slice none 0 0]].toList 8 = some ([.agg [.lit (.int .i64 0), .nil]], [], places) :=
  ⟨[], by kernel_rfl⟩
theorem laid_met (os : Os) : laidMet Tryz.prog Rows.progBackRow.laid ((laidWorld os).forCall (fun _ _ => 0) ⟨#[], #[.agg #[.int .i64 0, .slice none 0 0]], []⟩).memory := laid_here os #[.agg #[.int .i64 0, .slice none 0 0]]

set_option maxRecDepth 100000 in
theorem lifted (os : Os) (started : os.Started) (H : Type) (enc : TypeId × Value → H) (F : Stop.Interp) :
    ReturnsInHanded {} Tryz.checked os 8 .any ((OpenSpec.ofChange Rows.progBackSpec).preRow enc Tryz.prog Tryz.f8 Rows.progBackRow.domain false Rows.progBackRow.laid) (((OpenSpec.ofChange Rows.progBackSpec).at F).post enc Tryz.prog Tryz.f8 false true false false) := by
  obtain ⟨places, hx⟩ := reads os enc
  refine returnsInHanded_of_row (C := Tryz.checked) (s := OpenSpec.ofChange Rows.progBackSpec) Tryz.own started (by kernel_rfl) Tryz.func8
    (witness_row_atRef (enc := enc) (C := Tryz.checked) false (laidWorld os) #[.agg #[.int .i64 0, .slice none 0 0]] rfl (by kernel_rfl) (by kernel_rfl) (by kernel_rfl)
      (OpenSpec.preRow_of_cond 8 hx (by kernel_rfl) (fun k hk => by cases hk) (by kernel_rfl) (laid_met os))) ?_
  intro W base args ds gs before hval hW _ _ _ hL _ _
  exact contract H enc W base args ds gs before hval hW hL

theorem said : Rows.ProgBackSaid :=
  OpenClaim.holds_of_cond 8 Tryz.f8 rfl rfl rfl rfl rfl rfl rfl ⟨rfl, rfl, rfl, rfl, rfl⟩ rfl rfl rfl rfl rfl (by kernel_rfl) Tryz.func8 (by kernel_rfl)
    (of_decide_eq_true (by kernel_rfl)) (by unfold Func.isWrapper; first | (rw [if_pos (by decide +kernel)]; kernel_rfl) | (rw [if_neg (by decide +kernel)]; exact ⟨rfl, rfl⟩))
    (fun os started H enc _ F => by rw [OpenClaim.pre_eq_preRow]; exact lifted os started H enc F)

theorem plain (f : FuncId) (fn : Func) (hf : Tryz.pinned.checked.prog.funcNamed "gaffer/gafferlaw05.ProgBack" = some f) (hfn : Tryz.pinned.checked.prog.funcs[f]? = some fn) :
    true = Tryz.pinned.checked.prog.looks [] ∧ ∀ (j : Nat) t, fn.params[j]? = some t → Tryz.pinned.checked.prog.wantsStandIn t = false := by
  obtain rfl : f = 8 := Option.some.inj ((show Tryz.prog.funcNamed "gaffer/gafferlaw05.ProgBack" = some 8 by kernel_rfl).symm.trans hf) |>.symm
  obtain rfl : fn = Tryz.f8 := (Option.some.inj (Tryz.func8.symm.trans hfn)).symm
  refine ⟨by kernel_rfl, fun j t ht => ?_⟩
  rw [Tryz.params8] at ht
  have hm := Array.mem_of_getElem? ht
  simp only [List.mem_toArray, List.mem_cons, List.not_mem_nil, or_false] at hm
  rcases hm with rfl
  · exact (show Tryz.prog.wantsStandIn 24 = false by kernel_rfl)

theorem proved : Rows.ProgBackCardSaid :=
  Claim7.holds_tied_plain_at .later [] _ _ _ _ said (fun _ h => by cases h) (by kernel_rfl) (fun _ h => by cases h) progBack_row_tie rfl ⟨rfl, rfl⟩ (by kernel_rfl) rfl plain (by kernel_rfl)

end Go.Proofs.YtiidkgdlngcpgaaGreatDoor.progBack
