/- ProgForms: one form: what is taken, as a text or as bytes, may be, and is told byte by byte: as a row and as a card. -/
import Derived.Test.YtiidkgdlngcpgaaGreatDoorPv
import Derived.Test.YtiidkgdlngcpgaaGreatDoorPvk
set_option maxRecDepth 100000
namespace Go.Proofs.YtiidkgdlngcpgaaGreatDoor.progForms
open Go.ChangeMaps (open_string shut_string)
open Go.RowKit Go.WideShapes Go.ChangeShapes Go.ChangeAt Ieee

theorem read_text (L : List UInt8) (hl : L.length < 1073741824) : ∃ (E : Int) (K F : Nat) (M : List Ins), (∀ W, AllAt W → Calls Tryz.prog 17 #[.string (strOf L)] W fun e w' => (∃ A c, e = .returned (.tuple #[.agg #[.int .i64 (F : Nat), .slice A M.length c], .int .i64 E, .int .i64 (K : Nat)]) ∧ CodeIn w' w'.heap.size A M) ∧ Below W.heap.size W w') ∧ (∀ x ∈ M, x.k < 2 * signB) ∧ M.length < 1073741825 ∧ (E = 0 → (progCheck F M).1 = 0 ∧ progText F M = L) := by
  obtain ⟨⟨E, K, F, M⟩, hR⟩ : ∃ R, parseT L = R := ⟨_, rfl⟩
  refine ⟨E, K, F, M, fun W hW => ?_, ?_, ?_, fun h0 => ?_⟩
  · have k := pparse_any L hl W hW
    unfold ParseOut at k
    rw [hR] at k
    refine k.mono ?_
    rintro e w' ⟨⟨A, c, h1, h2, h3⟩, hb⟩
    exact ⟨⟨A, c, h1, h2.code h3⟩, hb⟩
  · have := parse_k L
    rw [hR] at this
    exact this.1
  · have := parse_k L
    rw [hR] at this
    have h2 : M.length ≤ (yl true (spl 10 L)).length := this.2
    have h3 := spl_count 10 L
    have h4 : L.count 10 ≤ L.length := List.count_le_length
    have h5 := yl_len true (spl 10 L)
    omega
  · subst h0
    obtain ⟨_, h2, h3, _⟩ := print_parse hR
    exact ⟨h2, h3⟩
theorem read_bytes (L : List UInt8) (hl : L.length < 1073741824) : ∃ (E : Int) (F : Nat) (M : List Ins), (∀ W, Calls Tryz.prog 23 #[.string (strOf L)] W fun e w' => (∃ A c, e = .returned (.tuple #[.agg #[.int .i64 (F : Nat), .slice A M.length c], .int .i64 E]) ∧ CodeIn w' w'.heap.size A M) ∧ Below W.heap.size W w') ∧ (E = 0 → (∀ x ∈ M, x.k < 2 * signB) ∧ (progCheck F M).1 = 0 ∧ progB F M = L) := by
  obtain ⟨⟨E, F, M⟩, hR⟩ : ∃ R, unpackP L = R := ⟨_, rfl⟩
  refine ⟨E, F, M, fun W => ?_, fun h0 => ?_⟩
  · have k := unpack_any L (by omega) W
    unfold UnpackOut at k
    rw [hR] at k
    refine Calls.mono (show Calls Tryz.prog 23 #[.string (strOf L)] W _ from k) ?_
    rintro e w' ⟨⟨A, c, h1, h2, h3⟩, hb⟩
    exact ⟨⟨A, c, h1, h2.code h3⟩, hb⟩
  · subst h0
    obtain ⟨h1, h2, h3, _⟩ := unpack_back hR
    exact ⟨h3, h2, h1⟩

set_option maxHeartbeats 8000000 in
set_option maxRecDepth 100000 in
theorem walk (L0 L1 : List UInt8) (hl0 : L0.length < 1073741824) (hl1 : L1.length < 1073741824) (w : World) (hA : AllAt w) :
    Calls Tryz.prog 9 #[.string (strOf L0), .string (strOf L1)] w fun e w' => e = .returned (.bool true) ∧ Below w.heap.size w w' := by
  obtain ⟨E, K, FU, M, kr, hk, hml, hE⟩ := read_text L0 hl0
  obtain ⟨E2, F2, M2, ku, hE2⟩ := read_bytes L1 hl1
  have HB := Lib.hid (Below.refl w.heap.size w)
  have HKA : Hid (∀ W, Below w.heap.size w W → Calls Tryz.prog 14 #[] W fun e w' => e = .returned (.bool true) ∧ Below W.heap.size W w') := Lib.hid fun W hW => awake_any W (hA.keep hW)
  have HKR : Hid (∀ W, Below w.heap.size w W → Calls Tryz.prog 17 #[.string (strOf L0)] W fun e w' => (∃ A c, e = .returned (.tuple #[.agg #[.int .i64 (FU : Nat), .slice A M.length c], .int .i64 E, .int .i64 (K : Nat)]) ∧ CodeIn w' w'.heap.size A M) ∧ Below W.heap.size W w') := Lib.hid fun W hW => kr W (hA.keep hW)
  have HKU := Lib.hid ku
  have HKC : Hid (∀ W A c, Below w.heap.size w W → CodeIn W W.heap.size A M → E = 0 → Calls Tryz.prog 12 #[.agg #[.int .i64 (FU : Nat), .slice A M.length c]] W fun e w' => (∃ at_, e = .returned (.tuple #[.int .i64 0, .int .i64 at_])) ∧ Below W.heap.size W w') := Lib.hid fun W A c _ hC h0 => by
    have k := check_any (FU : Nat) A M c W hC
    rw [(hE h0).1] at k
    exact k.mono fun e w' h => ⟨⟨_, h.1⟩, h.2⟩
  have HKP : Hid (∀ W A c, Below w.heap.size w W → CodeIn W W.heap.size A M → E = 0 → Calls Tryz.prog 15 #[.agg #[.int .i64 (FU : Nat), .slice A M.length c]] W fun e w' => e = .returned (.tuple #[.string (strOf L0), .int .i64 0]) ∧ Below W.heap.size W w') := Lib.hid fun W A c hW hC h0 => by
    have k := print_any (FU : Nat) A M c W hC hk (hA.keep hW).tabs
    rw [(hE h0).1, if_pos rfl, Int.toNat_natCast, (hE h0).2] at k
    exact k
  have HKC2 : Hid (∀ W A c, CodeIn W W.heap.size A M2 → E2 = 0 → Calls Tryz.prog 12 #[.agg #[.int .i64 (F2 : Nat), .slice A M2.length c]] W fun e w' => (∃ at_, e = .returned (.tuple #[.int .i64 0, .int .i64 at_])) ∧ Below W.heap.size W w') := Lib.hid fun W A c hC h0 => by
    have k := check_any (F2 : Nat) A M2 c W hC
    rw [(hE2 h0).2.1] at k
    exact k.mono fun e w' h => ⟨⟨_, h.1⟩, h.2⟩
  have HKK2 : Hid (∀ W A c, CodeIn W W.heap.size A M2 → E2 = 0 → Calls Tryz.prog 21 #[.agg #[.int .i64 (F2 : Nat), .slice A M2.length c]] W fun e w' => e = .returned (.tuple #[.string (strOf L1), .int .i64 0]) ∧ Below W.heap.size W w') := Lib.hid fun W A c hC h0 => by
    have k := pack_any (F2 : Nat) A M2 c W hC (hE2 h0).1
    rw [(hE2 h0).2.1, if_pos rfl, Int.toNat_natCast, (hE2 h0).2.2] at k
    exact k
  clear kr ku hk hml hE hE2 hl0 hl1 hA
  generalize strOf L0 = S0 at *
  generalize strOf L1 = S1 at *
  generalize M.length = m1 at *
  generalize M2.length = m2 at *
  go_enter Tryz.func9, Tryz.ntmps9
  go_upto_region 4 with (first | (go_at_call 14; refine (HKA.out _ HB.out).mono ?_; rintro _ wa ⟨rfl, hb⟩; have HB := Lib.hid (grow_to HB.out hb); clear hb) | (go_at_call 17; refine (HKR.out _ HB.out).mono ?_; rintro _ wb ⟨⟨A, c, rfl, hc⟩, hb⟩; have HC := Lib.hid hc; have HB := Lib.hid (grow_to HB.out hb); clear hc hb))
  clear HKA HKR
  have HAL := Lib.hid ((Below.refl wb.heap.size wb).alloc (Nat.le_refl _) (.cells #[.int .i64 (FU : Nat), .slice A m1 c] 24))
  have HX := Lib.hid (Cells.new wb 24 #[.int .i64 (FU : Nat), .slice A m1 c])
  replace HC := Lib.hid ((HC.out.keep HAL.out).more HAL.out.size)
  replace HB := Lib.hid (grow_to HB.out HAL.out)
  clear HAL
  generalize wb.alloc (.cells #[.int .i64 (FU : Nat), .slice A m1 c] 24) = wb2 at *
  generalize wb.heap.size = B1 at *
  have HMID : Hid (∀ wz, Below wb2.heap.size wb2 wz → Below w.heap.size w wz) := Lib.hid fun wz hz => grow_to HB.out hz
  have x0 := HX.out.cell (j := 0) rfl
  have x1 := HX.out.cell (j := 1) rfl
  by_cases h0 : E = 0
  · have HE := Lib.hid h0
    subst h0
    have e0 : ((0 : Int) == 0) = true := rfl
    go_upto_region 9 with (first | (go_at_call 12; refine (HKC.out _ A c HB.out HC.out HE.out).mono ?_; rintro _ wc ⟨⟨at_, rfl⟩, hb⟩; have HX := Lib.hid (HX.out.keep hb); have HC := Lib.hid ((HC.out.keep hb).more hb.size); have HB := Lib.hid (grow_to HB.out hb); have x0 := HX.out.cell (j := 0) rfl; have x1 := HX.out.cell (j := 1) rfl; clear hb) | (go_at_call 15; refine (HKP.out _ A c HB.out HC.out HE.out).mono ?_; rintro _ wd ⟨rfl, hb⟩; have HB := Lib.hid (grow_to HB.out hb); clear hb))
    clear HX HC x0 x1 HKC HKP
    go_upto_region 10 with (go_at_call 23; refine (HKU.out _).mono ?_; rintro _ wu ⟨⟨A2, c2, rfl, hc⟩, hb⟩; have HC2 := Lib.hid hc; have HB := Lib.hid (grow_to HB.out hb); clear hc hb)
    have HAL := Lib.hid ((Below.refl wu.heap.size wu).alloc (Nat.le_refl _) (.cells #[.int .i64 (F2 : Nat), .slice A2 m2 c2] 24))
    have HX2 := Lib.hid (Cells.new wu 24 #[.int .i64 (F2 : Nat), .slice A2 m2 c2])
    replace HC2 := Lib.hid ((HC2.out.keep HAL.out).more HAL.out.size)
    replace HB := Lib.hid (grow_to HB.out HAL.out)
    clear HAL
    generalize wu.alloc (.cells #[.int .i64 (F2 : Nat), .slice A2 m2 c2] 24) = wu2 at *
    generalize wu.heap.size = B2 at *
    have y0 := HX2.out.cell (j := 0) rfl
    have y1 := HX2.out.cell (j := 1) rfl
    by_cases h2 : E2 = 0
    · have HE2 := Lib.hid h2
      subst h2
      go_wp2_with (first | (go_at_call 12; refine (HKC2.out _ A2 c2 HC2.out HE2.out).mono ?_; rintro _ wc ⟨⟨at_, rfl⟩, hb⟩; have HX2 := Lib.hid (HX2.out.keep hb); have HC2 := Lib.hid ((HC2.out.keep hb).more hb.size); have HB := Lib.hid (grow_to HB.out hb); have y0 := HX2.out.cell (j := 0) rfl; have y1 := HX2.out.cell (j := 1) rfl; clear hb) | (go_at_call 21; refine (HKK2.out _ A2 c2 HC2.out HE2.out).mono ?_; rintro _ wd ⟨rfl, hb⟩; have HB := Lib.hid (grow_to HB.out hb); clear hb))
      go_ret
      exact ⟨by first | rfl | simp, HB.out⟩
    · have b2 : (E2 == 0) = false := by rw [beq_eq_false_iff_ne]; exact h2
      clear h2
      go_wp2
      go_ret
      exact ⟨rfl, HB.out⟩
  · have b0 : (E == 0) = false := by rw [beq_eq_false_iff_ne]; exact h0
    clear h0
    go_upto_region 9 with fail
    clear HX HC x0 x1 HKC HKP
    go_upto_region 10 with (go_at_call 23; refine (HKU.out _).mono ?_; rintro _ wu ⟨⟨A2, c2, rfl, hc⟩, hb⟩; have HC2 := Lib.hid hc; have HB := Lib.hid (grow_to HB.out hb); clear hc hb)
    have HAL := Lib.hid ((Below.refl wu.heap.size wu).alloc (Nat.le_refl _) (.cells #[.int .i64 (F2 : Nat), .slice A2 m2 c2] 24))
    have HX2 := Lib.hid (Cells.new wu 24 #[.int .i64 (F2 : Nat), .slice A2 m2 c2])
    replace HC2 := Lib.hid ((HC2.out.keep HAL.out).more HAL.out.size)
    replace HB := Lib.hid (grow_to HB.out HAL.out)
    clear HAL
    generalize wu.alloc (.cells #[.int .i64 (F2 : Nat), .slice A2 m2 c2] 24) = wu2 at *
    generalize wu.heap.size = B2 at *
    have y0 := HX2.out.cell (j := 0) rfl
    have y1 := HX2.out.cell (j := 1) rfl
    by_cases h2 : E2 = 0
    · have HE2 := Lib.hid h2
      subst h2
      go_wp2_with (first | (go_at_call 12; refine (HKC2.out _ A2 c2 HC2.out HE2.out).mono ?_; rintro _ wc ⟨⟨at_, rfl⟩, hb⟩; have HX2 := Lib.hid (HX2.out.keep hb); have HC2 := Lib.hid ((HC2.out.keep hb).more hb.size); have HB := Lib.hid (grow_to HB.out hb); have y0 := HX2.out.cell (j := 0) rfl; have y1 := HX2.out.cell (j := 1) rfl; clear hb) | (go_at_call 21; refine (HKK2.out _ A2 c2 HC2.out HE2.out).mono ?_; rintro _ wd ⟨rfl, hb⟩; have HB := Lib.hid (grow_to HB.out hb); clear hb))
      go_ret
      exact ⟨by first | rfl | simp, HB.out⟩
    · have b2 : (E2 == 0) = false := by rw [beq_eq_false_iff_ne]; exact h2
      clear h2
      go_wp2
      go_ret
      exact ⟨rfl, HB.out⟩
theorem walk2 (s0 s1 : ByteArray) (h0 : s0.size < 1048576) (h1 : s1.size < 1048576) (w : World) (hA : AllAt w) :
    Calls Tryz.prog 9 #[.string s0, .string s1] w fun e w' => e = .returned (.bool true) ∧ Below w.heap.size w w' := by
  have k := walk s0.data.toList s1.data.toList (by have : s0.data.toList.length = s0.size := by rw [Array.length_toList]; rfl
                                                   omega) (by have : s1.data.toList.length = s1.size := by rw [Array.length_toList]; rfl
                                                              omega) w hA
  rw [str_list, str_list] at k
  exact k

-- LIFT
set_option maxRecDepth 100000 in
theorem contract (H : Type) (enc : TypeId × Value → H) (W : World) (base : Nat) (args : Array Value) (ds gs : List (DataW H)) (before : List MemPlace)
    (hval : ∀ (j : Nat) t v, Tryz.f9.params[j]? = some t → args[j]? = some v → Value.okWide Tryz.prog W .any base t v)
    (hW : DataW.Whole enc Tryz.prog Tryz.f9.params.toList Rows.progFormsSpec.vars false W args.toList ds gs before) (hk : Rows.uptoSmall H (ds ++ gs) = true) (hL : laidMetH Tryz.prog Rows.progFormsUptoRow.laid W) :
    Calls Tryz.prog 9 args W fun e W' => ∃ v, e = .returned v ∧ Rows.progFormsSpec.post enc Tryz.prog Tryz.f9 false true false false W args v W' := by
  have hAll := all_of (show laidMetH Tryz.prog laidOf W from hL)
  clear hL
  have hts : Tryz.f9.params.toList.all (fun t => Tryz.prog.readableRec t && decide (t < Tryz.prog.types.size)) = true := by kernel_rfl
  have hW' := hW
  obtain ⟨p, q, hA0, hV, rfl, hfz, hnd⟩ := hW
  have hA : DataW.TrodAll enc Tryz.prog W 0 (fun _ => true) true Tryz.f9.params.toList args.toList ds p := hA0
  rw [Tryz.params9] at hA hval
  obtain ⟨v0, vs0, d0, ds0, p0, q0, hargs, rfl, rfl, h0, r0⟩ := trodAll_cons hA
  obtain ⟨v1, vs1, d1, ds1, p1, q1, rfl, rfl, rfl, h1, r1⟩ := trodAll_cons r0
  obtain ⟨rfl, rfl, rfl⟩ := trodAll_nil r1
  obtain rfl : args = #[v0, v1] := by cases args; simp_all
  obtain ⟨rfl, rfl⟩ := trodVars_none hV
  have hfn : Rows.progFormsSpec.fn H ([d0, d1] ++ []) = { results := [.lit (.bool true)], args := [d0, d1] } := rfl
  have hfin := fun W' (hbel : Below W.heap.size W W') => law_post (f := Tryz.f9) (s := Rows.progFormsSpec) 4 Tryz.laid hts rfl Tryz.underlying4 rfl hfn hW' hbel
  clear hA0 hts hfn
  simp only [List.append_nil] at hk
  obtain ⟨s0, rfl, rfl, rfl, w0⟩ := open_string Tryz.underlying9 (hval 0 9 v0 rfl rfl) h0
  have b0 : s0.size < 1048576 := bulk_string (bulk_mem hk _ (by simp))
  obtain ⟨s1, rfl, rfl, rfl, w1⟩ := open_string Tryz.underlying9 (hval 1 9 v1 rfl rfl) h1
  have b1 : s1.size < 1048576 := bulk_string (bulk_mem hk _ (by simp))
  exact (walk2 s0 s1 b0 b1 W hAll).mono fun e W' ⟨he, hg⟩ => ⟨_, he, hfin W' hg⟩

theorem reads (os : Os) {H : Type} (enc : TypeId × Value → H) : ∃ places, DataW.whole enc Tryz.prog ((laidWorld os).forCall (fun _ _ => 0) ⟨#[], #[.string ⟨#[]⟩, .string ⟨#[]⟩], []⟩).memory Tryz.f9.params.toList Rows.progFormsSpec.vars false #[.string ⟨#[]⟩, .string ⟨#[]⟩].toList 8 = some ([.lit (.string []), .lit (.string [])], [], places) :=
  ⟨[], by kernel_rfl⟩
theorem laid_met (os : Os) : laidMet Tryz.prog Rows.progFormsUptoRow.laid ((laidWorld os).forCall (fun _ _ => 0) ⟨#[], #[.string ⟨#[]⟩, .string ⟨#[]⟩], []⟩).memory := laid_here os #[.string ⟨#[]⟩, .string ⟨#[]⟩]

set_option maxRecDepth 100000 in
theorem lifted (os : Os) (started : os.Started) (H : Type) (enc : TypeId × Value → H) (F : Stop.Interp) :
    ReturnsInHanded {} Tryz.checked os 9 .any ((Rows.OpenSpec.upto Rows.progFormsSpec).preRow enc Tryz.prog Tryz.f9 Rows.progFormsUptoRow.domain false Rows.progFormsUptoRow.laid) (((Rows.OpenSpec.upto Rows.progFormsSpec).at F).post enc Tryz.prog Tryz.f9 false true false false) := by
  obtain ⟨places, hx⟩ := reads os enc
  refine returnsInHanded_of_row (C := Tryz.checked) (s := Rows.OpenSpec.upto Rows.progFormsSpec) Tryz.own started (by kernel_rfl) Tryz.func9
    (witness_row_atRef (enc := enc) (C := Tryz.checked) false (laidWorld os) #[.string ⟨#[]⟩, .string ⟨#[]⟩] rfl (by kernel_rfl) (by kernel_rfl) (by kernel_rfl)
      (OpenSpec.preRow_of_cond 8 hx (by kernel_rfl) (fun k hk => by cases hk; kernel_rfl) (by kernel_rfl) (laid_met os))) ?_
  intro W base args ds gs before hval hW _ hk _ hL _ _
  exact contract H enc W base args ds gs before hval hW (hk _ rfl) hL

theorem said : Rows.ProgFormsUptoSaid :=
  OpenClaim.holds_of_cond 9 Tryz.f9 rfl rfl rfl rfl rfl rfl rfl ⟨rfl, rfl, rfl, rfl, rfl⟩ rfl rfl rfl rfl rfl (by kernel_rfl) Tryz.func9 (by kernel_rfl)
    (of_decide_eq_true (by kernel_rfl)) (by unfold Func.isWrapper; first | (rw [if_pos (by decide +kernel)]; kernel_rfl) | (rw [if_neg (by decide +kernel)]; exact ⟨rfl, rfl⟩))
    (fun os started H enc _ F => by rw [OpenClaim.pre_eq_preRow]; exact lifted os started H enc F)

theorem plain (f : FuncId) (fn : Func) (hf : Tryz.pinned.checked.prog.funcNamed "gaffer/gafferlaw05.ProgForms" = some f) (hfn : Tryz.pinned.checked.prog.funcs[f]? = some fn) :
    true = Tryz.pinned.checked.prog.looks [] ∧ ∀ (j : Nat) t, fn.params[j]? = some t → Tryz.pinned.checked.prog.wantsStandIn t = false := by
  obtain rfl : f = 9 := Option.some.inj ((show Tryz.prog.funcNamed "gaffer/gafferlaw05.ProgForms" = some 9 by kernel_rfl).symm.trans hf) |>.symm
  obtain rfl : fn = Tryz.f9 := (Option.some.inj (Tryz.func9.symm.trans hfn)).symm
  refine ⟨by kernel_rfl, fun j t ht => ?_⟩
  rw [Tryz.params9] at ht
  have hm := Array.mem_of_getElem? ht
  simp only [List.mem_toArray, List.mem_cons, List.not_mem_nil, or_false] at hm
  rcases hm with rfl | rfl
  · exact (show Tryz.prog.wantsStandIn 9 = false by kernel_rfl)
  · exact (show Tryz.prog.wantsStandIn 9 = false by kernel_rfl)

theorem proved : Rows.ProgFormsUptoCardSaid :=
  Claim7.holds_tied_plain_at .later [] _ _ _ _ said (fun _ h => by cases h) (by kernel_rfl) (fun _ h => by cases h) progFormsUpto_row_tie rfl ⟨rfl, rfl⟩ (by kernel_rfl) rfl plain (by kernel_rfl)

end Go.Proofs.YtiidkgdlngcpgaaGreatDoor.progForms
