/- ProgReads: any text is read as the document says: as a row and as a card. -/
import Derived.Test.YtiidkgdlngcpgaaGreatDoorPv
import Derived.Test.YtiidkgdlngcpgaaGreatDoorPvk
import Derived.Test.YtiidkgdlngcpgaaGreatDoorRd
set_option maxRecDepth 100000
namespace Go.Proofs.YtiidkgdlngcpgaaGreatDoor.progReads
open Go.ChangeMaps (open_string shut_string)
open Go.RowKit Go.WideShapes Go.ChangeShapes Go.ChangeAt Ieee

theorem str_is (s : ByteArray) : strOf s.data.toList = s := str_list s
theorem out_told {W w' : World} {T : List UInt8} {e : Ending} {er : Int} {ln F : Nat} {acc : List Ins} (h : parseT T = (er, ln, F, acc)) (ho : ParseOut W T e w') : (∃ A cap, e = .returned (.tuple #[.agg #[.int .i64 (F : Nat), .slice A acc.length cap], .int .i64 er, .int .i64 (ln : Nat)]) ∧ RowI w' W.heap.size (.slice A acc.length cap) acc) ∧ Below W.heap.size W w' := by
  obtain ⟨⟨A, cap, h1, h2, _⟩, h3⟩ := ho
  rw [h] at h1 h2
  exact ⟨⟨A, cap, h1, h2⟩, h3⟩
set_option maxHeartbeats 8000000 in
set_option maxRecDepth 100000 in
theorem walk (s : ByteArray) (hs : s.size < 1048576) (w : World) (hA : AllAt w) :
    Calls Tryz.prog 5 #[.string s] w fun e w' => e = .returned (.bool true) ∧ Below w.heap.size w w' := by
  have HKA : Hid (∀ W, Below w.heap.size w W → Calls Tryz.prog 14 #[] W fun e w' => e = .returned (.bool true) ∧ Below W.heap.size W w') := Lib.hid fun W hW => awake_any W (hA.keep hW)
  have hlen : s.data.toList.length = s.size := Array.length_toList
  have hse : strOf s.data.toList = s := str_is s
  generalize s.data.toList = T at *
  subst hse
  obtain ⟨er, ln, F, acc, hpt⟩ : ∃ er ln F acc, parseT T = (er, ln, F, acc) := ⟨_, _, _, _, rfl⟩
  have hacc : acc.length < 1073741820 := by
    have h := (parse_k T).2
    rw [hpt] at h
    have h2 := yl_len true (spl 10 T)
    have h3 := spl_count 10 T
    have h4 : T.count 10 ≤ T.length := List.count_le_length
    dsimp only at h
    omega
  have hkk : ∀ x ∈ acc, x.k < 2 * signB := by
    have h := (parse_k T).1
    rw [hpt] at h
    exact h
  have HK1 : Hid (∀ W, Below w.heap.size w W → Calls Tryz.prog 17 #[.string (strOf T)] W fun e w' => (∃ A cap, e = .returned (.tuple #[.agg #[.int .i64 (F : Nat), .slice A acc.length cap], .int .i64 er, .int .i64 (ln : Nat)]) ∧ RowI w' W.heap.size (.slice A acc.length cap) acc) ∧ Below W.heap.size W w') := Lib.hid fun W hW => (pparse_any T (by omega) W (hA.keep hW)).mono fun e w' ho => out_told hpt ho
  have HK2 : Hid (∀ W, Below w.heap.size w W → Calls Tryz.prog 18 #[.string (strOf T)] W fun e w' => (∃ A cap, e = .returned (.tuple #[.agg #[.int .i64 (F : Nat), .slice A acc.length cap], .int .i64 er, .int .i64 (ln : Nat)]) ∧ RowI w' W.heap.size (.slice A acc.length cap) acc) ∧ Below W.heap.size W w') := Lib.hid fun W hW => (rpparse_any T (by omega) W).mono fun e w' ho => out_told hpt ho
  have HKS : Hid (∀ W A1 A2 n1 n2, CodeIn W W.heap.size A1 acc → CodeIn W W.heap.size A2 acc → Calls Tryz.prog 19 #[.agg #[.int .i64 (F : Nat), .slice A1 acc.length n1], .agg #[.int .i64 (F : Nat), .slice A2 acc.length n2]] W fun e w' => e = .returned (.bool true) ∧ Below W.heap.size W w') := Lib.hid fun W A1 A2 n1 n2 h1 h2 => by
    have k := same_any (F : Nat) (F : Nat) A1 A2 acc acc n1 n2 W h1 h2 (by omega)
    rw [decide_eq_true ⟨rfl, rfl⟩] at k
    exact k
  have HACC := Lib.hid hacc
  have HKK := Lib.hid hkk
  have HB0 := Lib.hid (Below.refl w.heap.size w)
  have t1 : (er != er) = false := by simp
  have t2 : (((ln : Nat) : Int) != ((ln : Nat) : Int)) = false := by simp
  clear hacc hkk hpt hlen hs hA
  generalize strOf T = S at *
  clear T
  go_enter Tryz.func5, Tryz.ntmps5
  go_wp2
  go_loopw [3] (fun iv wr => ∃ i : Nat, i ≤ 2 ∧ iv = .int .i64 (i : Int) ∧ Below w.heap.size w wr) (fun iv _ => 2 - (intOf iv).toNat)
  case atStart => exact ⟨0, by omega, rfl, HB0.out⟩
  case round =>
    obtain ⟨i, hi, rfl, hB⟩ := hrel
    have HBR := Lib.hid hB
    clear hB HB0
    by_cases hlt : i < 2
    · have t0 : (i : Int) < 2 := by omega
      have HLT := Lib.hid (show i + 1 ≤ 2 ∧ i < 2 from ⟨hlt, hlt⟩)
      have hwi : wrap64 ((i : Int) + 1) = (i : Int) + 1 := by unfold wrap64; omega
      have HWI := Lib.hid hwi
      clear hi hlt hwi
      go_upto_region 5 with (go_at_call 17; refine (HK1.out _ HBR.out).mono ?_; rintro _ w1 ⟨⟨A1, cap1, rfl, hr1⟩, hb1⟩; have HR1 := Lib.hid hr1; have HB1 := Lib.hid (grow_to HBR.out hb1); have HS1 := Lib.hid hb1.size; clear hr1 hb1)
      have HC2 := Lib.hid (Cells.new w1 24 #[.int .i64 (F : Nat), .slice A1 acc.length cap1])
      have HR2 : Hid (RowI (w1.alloc (.cells #[.int .i64 (F : Nat), .slice A1 acc.length cap1] 24)) wr.heap.size (.slice A1 acc.length cap1) acc) := Lib.hid (HR1.out.keep ((Below.refl w1.heap.size w1).alloc (Nat.le_refl _) _))
      have HB2 := Lib.hid (HB1.out.alloc HB1.out.size (.cells #[.int .i64 (F : Nat), .slice A1 acc.length cap1] 24))
      clear HR1 HB1
      generalize w1.alloc (.cells #[.int .i64 (F : Nat), .slice A1 acc.length cap1] 24) = w2 at *
      have HP1L := Lib.hid (show wr.heap.size ≤ w1.heap.size from HS1.out)
      clear HS1
      generalize w1.heap.size = P1 at *
      clear w1
      go_upto_region 6 with (go_at_call 18; refine (HK2.out _ HB2.out).mono ?_; rintro _ w3 ⟨⟨A2, cap2, rfl, hr3⟩, hb3⟩; have HQ3 := Lib.hid hr3; have HR3 := Lib.hid (HR2.out.keep hb3); have HC3 := Lib.hid (HC2.out.keep hb3); have HB3 := Lib.hid (grow_to HB2.out hb3); clear hr3 hb3)
      have HD4 := Lib.hid (Cells.new w3 24 #[.int .i64 (F : Nat), .slice A2 acc.length cap2])
      have HC4 := Lib.hid (HC3.out.alloc (.cells #[.int .i64 (F : Nat), .slice A2 acc.length cap2] 24))
      have HR4 : Hid (RowI (w3.alloc (.cells #[.int .i64 (F : Nat), .slice A2 acc.length cap2] 24)) wr.heap.size (.slice A1 acc.length cap1) acc) := Lib.hid (HR3.out.keep ((Below.refl w3.heap.size w3).alloc (Nat.le_refl _) _))
      have HQ4 : Hid (RowI (w3.alloc (.cells #[.int .i64 (F : Nat), .slice A2 acc.length cap2] 24)) w2.heap.size (.slice A2 acc.length cap2) acc) := Lib.hid (HQ3.out.keep ((Below.refl w3.heap.size w3).alloc (Nat.le_refl _) _))
      have HB4 := Lib.hid (HB3.out.alloc HB3.out.size (.cells #[.int .i64 (F : Nat), .slice A2 acc.length cap2] 24))
      clear HR2 HC2 HB2 HR3 HC3 HB3 HQ3
      generalize w3.alloc (.cells #[.int .i64 (F : Nat), .slice A2 acc.length cap2] 24) = w4 at *
      generalize w3.heap.size = P2 at *
      have ks := HKS.out w4 A1 A2 cap1 cap2 (HR4.out.code HKK.out) (HQ4.out.code HKK.out)
      have KS := Lib.hid ks
      clear HQ4 ks
      generalize w2.heap.size = s2 at *
      clear w3 w2
      have c0 : w4.cell? ⟨P1, 0, none⟩ = some (.int .i64 (F : Nat)) := HC4.out.cell (j := 0) rfl
      have c1 : w4.cell? ⟨P1, 1, none⟩ = some (.slice A1 acc.length cap1) := HC4.out.cell (j := 1) rfl
      have d0 : w4.cell? ⟨P2, 0, none⟩ = some (.int .i64 (F : Nat)) := HD4.out.cell (j := 0) rfl
      have d1 : w4.cell? ⟨P2, 1, none⟩ = some (.slice A2 acc.length cap2) := HD4.out.cell (j := 1) rfl
      go_upto_region 8 with (go_at_call 19; refine KS.out.mono ?_; rintro _ w5 ⟨rfl, hb5⟩; have HR5 := Lib.hid (HR4.out.keep hb5); have HC5 := Lib.hid (HC4.out.keep hb5); have HB5 := Lib.hid (grow_to HB4.out hb5); have e0 : w5.cell? ⟨P1, 0, none⟩ = some (.int .i64 (F : Nat)) := HC5.out.cell (j := 0) rfl; have e1 : w5.cell? ⟨P1, 1, none⟩ = some (.slice A1 acc.length cap1) := HC5.out.cell (j := 1) rfl; clear hb5)
      clear KS HR4 HC4 HB4 HD4 c0 c1 d0 d1
      have hbase : wr.heap.size ≤ w5.heap.size := Nat.le_trans HP1L.out (Nat.le_of_lt HC5.out.lt)
      have kx := spoil_any (F : Nat) A1 acc.length cap1 wr.heap.size w5 HR5.out.any hbase HACC.out
      have KX := Lib.hid kx
      clear kx hbase
      go_wp2_with (go_at_call 20; refine KX.out.mono ?_; rintro _ w6 ⟨rfl, hb6⟩; have HB6 := Lib.hid (HB5.out.trans (Below.mono hb6 HBR.out.size)); clear hb6)
      exact ⟨⟨i + 1, HLT.out.1, by first | exact up_val HWI.out | rfl, HB6.out⟩, by first | exact up_end HLT.out.2 HWI.out | (have hh := HLT.out; simp [intOf]; omega)⟩
    · obtain rfl : i = 2 := by omega
      have t0 : ¬ ((2 : Nat) : Int) < 2 := by omega
      go_wp2_with (go_at_call 14; refine (HKA.out _ HBR.out).mono ?_; rintro _ w7 ⟨rfl, hb7⟩; have HB7 := Lib.hid (grow_to HBR.out hb7); clear hb7)
      go_ret
      exact ⟨by first | rfl | simp, HB7.out⟩

-- LIFT
set_option maxRecDepth 100000 in
theorem contract (H : Type) (enc : TypeId × Value → H) (W : World) (base : Nat) (args : Array Value) (ds gs : List (DataW H)) (before : List MemPlace)
    (hval : ∀ (j : Nat) t v, Tryz.f5.params[j]? = some t → args[j]? = some v → Value.okWide Tryz.prog W .any base t v)
    (hW : DataW.Whole enc Tryz.prog Tryz.f5.params.toList Rows.progReadsSpec.vars false W args.toList ds gs before) (hk : Rows.uptoSmall H (ds ++ gs) = true) (hL : laidMetH Tryz.prog Rows.progReadsUptoRow.laid W) :
    Calls Tryz.prog 5 args W fun e W' => ∃ v, e = .returned v ∧ Rows.progReadsSpec.post enc Tryz.prog Tryz.f5 false true false false W args v W' := by
  have hAll := all_of (show laidMetH Tryz.prog laidOf W from hL)
  clear hL
  have hts : Tryz.f5.params.toList.all (fun t => Tryz.prog.readableRec t && decide (t < Tryz.prog.types.size)) = true := by kernel_rfl
  have hW' := hW
  obtain ⟨p, q, hA0, hV, rfl, hfz, hnd⟩ := hW
  have hA : DataW.TrodAll enc Tryz.prog W 0 (fun _ => true) true Tryz.f5.params.toList args.toList ds p := hA0
  rw [Tryz.params5] at hA hval
  obtain ⟨v0, vs0, d0, ds0, p0, q0, hargs, rfl, rfl, h0, r0⟩ := trodAll_cons hA
  obtain ⟨rfl, rfl, rfl⟩ := trodAll_nil r0
  obtain rfl : args = #[v0] := by cases args; simp_all
  obtain ⟨rfl, rfl⟩ := trodVars_none hV
  have hfn : Rows.progReadsSpec.fn H ([d0] ++ []) = { results := [.lit (.bool true)], args := [d0] } := rfl
  have hfin := fun W' (hbel : Below W.heap.size W W') => law_post (f := Tryz.f5) (s := Rows.progReadsSpec) 4 Tryz.laid hts rfl Tryz.underlying4 rfl hfn hW' hbel
  clear hA0 hts hfn
  simp only [List.append_nil] at hk
  obtain ⟨s0, rfl, rfl, rfl, w0⟩ := open_string Tryz.underlying9 (hval 0 9 v0 rfl rfl) h0
  have b0 : s0.size < 1048576 := bulk_string (bulk_mem hk _ (by simp))
  exact (walk s0 b0 W hAll).mono fun e W' ⟨he, hg⟩ => ⟨_, he, hfin W' hg⟩

theorem reads (os : Os) {H : Type} (enc : TypeId × Value → H) : ∃ places, DataW.whole enc Tryz.prog ((laidWorld os).forCall (fun _ _ => 0) ⟨#[], #[.string ⟨#[]⟩], []⟩).memory Tryz.f5.params.toList Rows.progReadsSpec.vars false #[.string ⟨#[]⟩].toList 8 = some ([.lit (.string [])], [], places) :=
  ⟨[], by kernel_rfl⟩
theorem laid_met (os : Os) : laidMet Tryz.prog Rows.progReadsUptoRow.laid ((laidWorld os).forCall (fun _ _ => 0) ⟨#[], #[.string ⟨#[]⟩], []⟩).memory := laid_here os #[.string ⟨#[]⟩]

set_option maxRecDepth 100000 in
theorem lifted (os : Os) (started : os.Started) (H : Type) (enc : TypeId × Value → H) (F : Stop.Interp) :
    ReturnsInHanded {} Tryz.checked os 5 .any ((Rows.OpenSpec.upto Rows.progReadsSpec).preRow enc Tryz.prog Tryz.f5 Rows.progReadsUptoRow.domain false Rows.progReadsUptoRow.laid) (((Rows.OpenSpec.upto Rows.progReadsSpec).at F).post enc Tryz.prog Tryz.f5 false true false false) := by
  obtain ⟨places, hx⟩ := reads os enc
  refine returnsInHanded_of_row (C := Tryz.checked) (s := Rows.OpenSpec.upto Rows.progReadsSpec) Tryz.own started (by kernel_rfl) Tryz.func5
    (witness_row_atRef (enc := enc) (C := Tryz.checked) false (laidWorld os) #[.string ⟨#[]⟩] rfl (by kernel_rfl) (by kernel_rfl) (by kernel_rfl)
      (OpenSpec.preRow_of_cond 8 hx (by kernel_rfl) (fun k hk => by cases hk; kernel_rfl) (by kernel_rfl) (laid_met os))) ?_
  intro W base args ds gs before hval hW _ hk _ hL _ _
  exact contract H enc W base args ds gs before hval hW (hk _ rfl) hL

theorem said : Rows.ProgReadsUptoSaid :=
  OpenClaim.holds_of_cond 5 Tryz.f5 rfl rfl rfl rfl rfl rfl rfl ⟨rfl, rfl, rfl, rfl, rfl⟩ rfl rfl rfl rfl rfl (by kernel_rfl) Tryz.func5 (by kernel_rfl)
    (of_decide_eq_true (by kernel_rfl)) (by unfold Func.isWrapper; first | (rw [if_pos (by decide +kernel)]; kernel_rfl) | (rw [if_neg (by decide +kernel)]; exact ⟨rfl, rfl⟩))
    (fun os started H enc _ F => by rw [OpenClaim.pre_eq_preRow]; exact lifted os started H enc F)

theorem plain (f : FuncId) (fn : Func) (hf : Tryz.pinned.checked.prog.funcNamed "gaffer/gafferlaw05.ProgReads" = some f) (hfn : Tryz.pinned.checked.prog.funcs[f]? = some fn) :
    true = Tryz.pinned.checked.prog.looks [] ∧ ∀ (j : Nat) t, fn.params[j]? = some t → Tryz.pinned.checked.prog.wantsStandIn t = false := by
  obtain rfl : f = 5 := Option.some.inj ((show Tryz.prog.funcNamed "gaffer/gafferlaw05.ProgReads" = some 5 by kernel_rfl).symm.trans hf) |>.symm
  obtain rfl : fn = Tryz.f5 := (Option.some.inj (Tryz.func5.symm.trans hfn)).symm
  refine ⟨by kernel_rfl, fun j t ht => ?_⟩
  rw [Tryz.params5] at ht
  have hm := Array.mem_of_getElem? ht
  simp only [List.mem_toArray, List.mem_cons, List.not_mem_nil, or_false] at hm
  rcases hm with rfl
  · exact (show Tryz.prog.wantsStandIn 9 = false by kernel_rfl)

theorem proved : Rows.ProgReadsUptoCardSaid :=
  Claim7.holds_tied_plain_at .later [] _ _ _ _ said (fun _ h => by cases h) (by kernel_rfl) (fun _ h => by cases h) progReadsUpto_row_tie rfl ⟨rfl, rfl⟩ (by kernel_rfl) rfl plain (by kernel_rfl)

end Go.Proofs.YtiidkgdlngcpgaaGreatDoor.progReads
