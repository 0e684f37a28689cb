/- NumBack: Parse of Text is the number, Text of what Parse takes is the text, as a row and as a card: where what it reads is of bulk at most 1048576. -/
import Derived.Test.YtjlnbfpjlladoaaDoorNumUpto
import Derived.Test.YtjlnbfpjlladoaaDoorJc
set_option maxRecDepth 100000
namespace Go.Proofs.YtjlnbfpjlladoaaDoor.numBack
open Go.RowKit Go.WideShapes Go.ChangeShapes Go.ChangeAt
open Go.ChangeMaps (open_string shut_string)

theorem ftext_len (a : Nat) (ha : a < 2 * signB) : (ftext a).length < 1000 := by
  unfold ftext
  split
  · decide
  · have h1 : (if signB ≤ a then ([45] : List UInt8) else []).length ≤ 1 := by
      split <;> simp
    rw [List.length_append]
    by_cases c1 : a % signB = infB
    · rw [if_pos c1]
      have : ([105, 110, 102] : List UInt8).length = 3 := rfl
      omega
    rw [if_neg c1]
    by_cases c2 : a % signB = 0
    · rw [if_pos c2]
      have : ([48] : List UInt8).length = 1 := rfl
      omega
    rw [if_neg c2, List.length_append, List.length_cons]
    have h2 := (decDigits_len (oddM (a % signB))).2 (by
      have := @taken_lt (a % signB)
      have : oddM (a % signB) ≤ takenM (a % signB) := Nat.div_le_self _ _
      omega)
    obtain ⟨_, _, q3⟩ := odd_split c2
    have g1 := takenE_ge (a % signB)
    have hE : oddE (a % signB) = takenE (a % signB) + (Lib.ctz 64 (takenM (a % signB)) : Int) := rfl
    have g2 : takenE (a % signB) ≤ 3000 := by
      unfold takenE
      have : a % signB < signB := Nat.mod_lt _ (by decide)
      unfold signB at this ⊢
      split <;> omega
    have h3 := itoa_len (oddE (a % signB)) (by omega)
    omega
set_option maxHeartbeats 4000000 in
set_option maxRecDepth 100000 in
theorem walk (a : Nat) (s : ByteArray) (w : World) (hT : w.cell? TA = some (.int .u8 50)) (hT2 : TabsAt w) (hE : ErrAt w) (ha : a < 2 * signB) (hs : s.size < 1048576) :
    Calls Tryd.prog 4 #[.int .u64 (a : Nat), .string s] w fun e w' => e = .returned (.bool true) ∧ Below w.heap.size w w' := by
  have hG := Lib.hid (Below.refl w.heap.size w)
  have HT2 := Lib.hid hT2
  have HE := Lib.hid hE
  clear hT2 hE
  have hl := ftext_len a ha
  have kx := text_any ha
  have kp := fun w => parse_any (l := ftext a) (by omega) w
  rw [fparse_text ha] at kp
  have kc := told_grew (canon_is ha)
  have hsl : s.data.toList.length = s.size := Array.length_toList
  have kq := fun w => parse_any (l := s.data.toList) (by omega) w
  have htf := @text_fparse s.data.toList
  rw [str_list] at kq
  have hss : strOf s.data.toList = s := str_list s
  obtain ⟨V, hV⟩ : ∃ V, V = fparse s.data.toList := ⟨_, rfl⟩
  rw [← hV] at kq htf
  obtain ⟨TX, hTX⟩ : ∃ z : ByteArray, z = strOf (ftext a) := ⟨_, rfl⟩
  have kx2 : ∀ w, TabsAt w → Calls Tryd.prog 7 #[.int .u64 (a : Nat)] w fun e w' => e = .returned (.string (strOf (ftext a))) ∧ Below w.heap.size w w' := kx
  rw [← hTX] at kx2 kp
  obtain ⟨C, hC⟩ : ∃ z : Int, z = ((fcan a : Nat) : Int) := ⟨_, rfl⟩
  have kp2 : ∀ w, TabsAt w → ErrAt w → Calls Tryd.prog 9 #[.string TX] w fun e w' => e = .returned (.tuple #[.int .u64 ((fcan a : Nat) : Int), .int .i64 0]) ∧ Below w.heap.size w w' := kp
  rw [← hC] at kp2 kc
  by_cases c : V.2 = 0
  · obtain ⟨h1, h2⟩ := htf c
    have kt := text_any h2
    have kt2 : ∀ w, TabsAt w → Calls Tryd.prog 7 #[.int .u64 ((V.1 : Nat) : Int)] w fun e w' => e = .returned (.string (strOf (ftext V.1))) ∧ Below w.heap.size w w' := kt
    rw [h1, hss] at kt2
    rw [c] at kq
    obtain ⟨v, hv⟩ : ∃ v : Int, v = ((V.1 : Nat) : Int) := ⟨_, rfl⟩
    rw [← hv] at kt2 kq
    clear kx kp kt h1 h2 htf hV hTX hC hss hsl hl hs ha hv c
    go_enter Tryd.func4, Tryd.ntmps4
    go_wp2_with (first | (go_at_call 6; refine (awake_any _ (cell_keeps hG.out hT)).mono ?_; rintro _ _ ⟨rfl, hb⟩; replace hG := Lib.hid (grow_trans hG.out hb); clear hb) | (go_at_call 7; first | (with_reducible (refine (kx2 _ (tabs_keep hG.out HT2.out)).mono ?_); rintro _ _ ⟨rfl, hb⟩; replace hG := Lib.hid (grow_trans hG.out hb); clear hb) | (with_reducible (refine (kt2 _ (tabs_keep hG.out HT2.out)).mono ?_); rintro _ _ ⟨rfl, hb⟩; replace hG := Lib.hid (grow_trans hG.out hb); clear hb)) | (go_at_call 9; first | (with_reducible (refine (kp2 _ (tabs_keep hG.out HT2.out) (err_keep hG.out HE.out)).mono ?_); rintro _ _ ⟨rfl, hb⟩; replace hG := Lib.hid (grow_trans hG.out hb); clear hb) | (with_reducible (refine (kq _ (tabs_keep hG.out HT2.out) (err_keep hG.out HE.out)).mono ?_); rintro _ _ ⟨rfl, hb⟩; replace hG := Lib.hid (grow_trans hG.out hb); clear hb)) | (go_at_call 10; with_reducible (refine (kc _).mono ?_); rintro _ _ ⟨rfl, hb⟩; replace hG := Lib.hid (grow_trans hG.out hb); clear hb))
    go_ret
    exact ⟨by first | rfl | simp, hG.out⟩
  · have c1 : (V.2 == 0) = false := beq_eq_false_iff_ne.2 c
    obtain ⟨e, he⟩ : ∃ v : Int, v = V.2 := ⟨_, rfl⟩
    obtain ⟨v, hv⟩ : ∃ v : Int, v = ((V.1 : Nat) : Int) := ⟨_, rfl⟩
    rw [← he] at c1 kq c
    have c2 : (e != 0) = true := by simpa using c
    rw [← hv] at kq
    clear kx kp htf hV hTX hC hss hsl hl hs ha hv he
    go_enter Tryd.func4, Tryd.ntmps4
    go_wp2_with (first | (go_at_call 6; refine (awake_any _ (cell_keeps hG.out hT)).mono ?_; rintro _ _ ⟨rfl, hb⟩; replace hG := Lib.hid (grow_trans hG.out hb); clear hb) | (go_at_call 7; (with_reducible (refine (kx2 _ (tabs_keep hG.out HT2.out)).mono ?_); rintro _ _ ⟨rfl, hb⟩; replace hG := Lib.hid (grow_trans hG.out hb); clear hb)) | (go_at_call 9; first | (with_reducible (refine (kp2 _ (tabs_keep hG.out HT2.out) (err_keep hG.out HE.out)).mono ?_); rintro _ _ ⟨rfl, hb⟩; replace hG := Lib.hid (grow_trans hG.out hb); clear hb) | (with_reducible (refine (kq _ (tabs_keep hG.out HT2.out) (err_keep hG.out HE.out)).mono ?_); rintro _ _ ⟨rfl, hb⟩; replace hG := Lib.hid (grow_trans hG.out hb); clear hb)) | (go_at_call 10; with_reducible (refine (kc _).mono ?_); rintro _ _ ⟨rfl, hb⟩; replace hG := Lib.hid (grow_trans hG.out hb); clear hb))
    go_ret
    exact ⟨by first | rfl | simp, hG.out⟩

-- LIFT
set_option maxRecDepth 100000 in
theorem contract (H : Type) (enc : TypeId × Value → H) (W : World) (base : Nat) (args : Array Value) (ds gs : List (DataW H)) (before : List MemPlace)
    (hval : ∀ (j : Nat) t v, Tryd.f4.params[j]? = some t → args[j]? = some v → Value.okWide Tryd.prog W .any base t v)
    (hW : DataW.Whole enc Tryd.prog Tryd.f4.params.toList Rows.numBackSpec.vars false W args.toList ds gs before) (hk : Rows.uptoSmall H (ds ++ gs) = true) (hL : laidMetH Tryd.prog Rows.numBackUptoRow.laid W) :
    Calls Tryd.prog 4 args W fun e W' => ∃ v, e = .returned v ∧ Rows.numBackSpec.post enc Tryd.prog Tryd.f4 false true false false W args v W' := by
  have hT := cell_of (show laidMetH Tryd.prog laidOf W from hL)
  have hT2 := tabs_of (show laidMetH Tryd.prog laidOf W from hL)
  have hE := err_of (show laidMetH Tryd.prog laidOf W from hL)
  clear hL
  have hts : Tryd.f4.params.toList.all (fun t => Tryd.prog.readableRec t && decide (t < Tryd.prog.types.size)) = true := by kernel_rfl
  have hW' := hW
  obtain ⟨p, q, hA0, hV, rfl, hfz, hnd⟩ := hW
  have hA : DataW.TrodAll enc Tryd.prog W 0 (fun _ => true) true Tryd.f4.params.toList args.toList ds p := hA0
  rw [Tryd.params4] at hA hval
  obtain ⟨v0, vs0, d0, ds0, p0, q0, hargs, rfl, rfl, h0, r0⟩ := trodAll_cons hA
  obtain ⟨v1, vs1, d1, ds1, p1, q1, rfl, rfl, rfl, h1, r1⟩ := trodAll_cons r0
  obtain ⟨rfl, rfl, rfl⟩ := trodAll_nil r1
  obtain rfl : args = #[v0, v1] := by cases args; simp_all
  obtain ⟨rfl, rfl⟩ := trodVars_none hV
  have hfn : Rows.numBackSpec.fn H ([d0, d1] ++ []) = { results := [.lit (.bool true)], args := [d0, d1] } := rfl
  have hfin := fun W' (hbel : Below W.heap.size W W') => law_post (f := Tryd.f4) (s := Rows.numBackSpec) 4 Tryd.laid hts rfl Tryd.underlying4 rfl hfn hW' hbel
  clear hA0 hts hfn
  obtain ⟨a0, rfl, rfl, rfl, w0⟩ := open_int Tryd.underlying22 (hval 0 22 v0 rfl rfl) h0
  obtain ⟨s1, rfl, rfl, rfl, w1⟩ := open_string Tryd.underlying9 (hval 1 9 v1 rfl rfl) h1
  simp only [List.append_nil] at hk
  have x0 : 0 ≤ a0 ∧ a0 ≤ 18446744073709551615 := by simpa [Lit.wf, IntKind.min, IntKind.max, IntKind.signed, IntKind.bits] using w0
  obtain ⟨n0, rfl⟩ := Int.eq_ofNat_of_zero_le x0.1
  have b1 : s1.size < 1048576 := bulk_string (bulk_mem hk _ (by simp))
  exact (walk n0 s1 W hT hT2 hE (by unfold signB; omega) b1).mono fun e W' ⟨he, hg⟩ => ⟨_, he, hfin W' hg⟩

theorem reads (os : Os) {H : Type} (enc : TypeId × Value → H) : ∃ places, DataW.whole enc Tryd.prog ((laidWorld os).forCall (fun _ _ => 0) ⟨#[], #[.int .u64 0, .string .empty], []⟩).memory Tryd.f4.params.toList Rows.numBackSpec.vars false #[.int .u64 0, .string .empty].toList 8 = some ([.lit (.int .u64 0), .lit (.string [])], [], places) :=
  ⟨[], by kernel_rfl⟩
theorem laid_met (os : Os) : laidMet Tryd.prog Rows.numBackUptoRow.laid ((laidWorld os).forCall (fun _ _ => 0) ⟨#[], #[.int .u64 0, .string .empty], []⟩).memory := laid_here os #[.int .u64 0, .string .empty]

set_option maxRecDepth 100000 in
theorem lifted (os : Os) (started : os.Started) (H : Type) (enc : TypeId × Value → H) (F : Stop.Interp) :
    ReturnsInHanded {} Tryd.checked os 4 .any ((Rows.OpenSpec.upto Rows.numBackSpec).preRow enc Tryd.prog Tryd.f4 Rows.numBackUptoRow.domain false Rows.numBackUptoRow.laid) (((Rows.OpenSpec.upto Rows.numBackSpec).at F).post enc Tryd.prog Tryd.f4 false true false false) := by
  obtain ⟨places, hx⟩ := reads os enc
  refine returnsInHanded_of_row (C := Tryd.checked) (s := Rows.OpenSpec.upto Rows.numBackSpec) Tryd.own started (by kernel_rfl) Tryd.func4
    (witness_row_atRef (enc := enc) (C := Tryd.checked) false (laidWorld os) #[.int .u64 0, .string .empty] rfl (by kernel_rfl) (by kernel_rfl) (by kernel_rfl)
      (OpenSpec.preRow_of_cond 8 hx (by kernel_rfl) (fun k hk => by cases hk; kernel_rfl) (by kernel_rfl) (laid_met os))) ?_
  intro W base args ds gs before hval hW _ hk _ hL _ _
  exact contract H enc W base args ds gs before hval hW (hk _ rfl) hL

theorem said : Rows.NumBackUptoSaid :=
  OpenClaim.holds_of_cond 4 Tryd.f4 rfl rfl rfl rfl rfl rfl rfl ⟨rfl, rfl, rfl, rfl, rfl⟩ rfl rfl rfl rfl rfl (by kernel_rfl) Tryd.func4 (by kernel_rfl)
    (of_decide_eq_true (by kernel_rfl)) (by unfold Func.isWrapper; first | (rw [if_pos (by decide +kernel)]; kernel_rfl) | (rw [if_neg (by decide +kernel)]; exact ⟨rfl, rfl⟩))
    (fun os started H enc _ F => by rw [OpenClaim.pre_eq_preRow]; exact lifted os started H enc F)

theorem plain (f : FuncId) (fn : Func) (hf : Tryd.pinned.checked.prog.funcNamed "gaffer/gafferlaw01.NumBack" = some f) (hfn : Tryd.pinned.checked.prog.funcs[f]? = some fn) :
    true = Tryd.pinned.checked.prog.looks [] ∧ ∀ (j : Nat) t, fn.params[j]? = some t → Tryd.pinned.checked.prog.wantsStandIn t = false := by
  obtain rfl : f = 4 := Option.some.inj ((show Tryd.prog.funcNamed "gaffer/gafferlaw01.NumBack" = some 4 by kernel_rfl).symm.trans hf) |>.symm
  obtain rfl : fn = Tryd.f4 := (Option.some.inj (Tryd.func4.symm.trans hfn)).symm
  refine ⟨by kernel_rfl, fun j t ht => ?_⟩
  rw [Tryd.params4] at ht
  have hm := Array.mem_of_getElem? ht
  simp only [List.mem_toArray, List.mem_cons, List.not_mem_nil, or_false] at hm
  rcases hm with rfl | rfl
  · exact (show Tryd.prog.wantsStandIn 22 = false by kernel_rfl)
  · exact (show Tryd.prog.wantsStandIn 9 = false by kernel_rfl)

theorem proved : Rows.NumBackUptoCardSaid :=
  Claim7.holds_tied_plain_at .later [] _ _ _ _ said (fun _ h => by cases h) (by kernel_rfl) (fun _ h => by cases h) numBackUpto_row_tie rfl ⟨rfl, rfl⟩ (by kernel_rfl) rfl plain (by kernel_rfl)

end Go.Proofs.YtjlnbfpjlladoaaDoor.numBack
