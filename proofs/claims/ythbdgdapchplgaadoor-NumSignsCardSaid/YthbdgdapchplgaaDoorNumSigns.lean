/- NumSigns: signs go through, as a row and as a card. No condition. -/
import Derived.Test.YthbdgdapchplgaaDoorNumRow
set_option maxRecDepth 100000
namespace Go.Proofs.YthbdgdapchplgaaDoor.numSigns
open Go.RowKit Go.WideShapes Go.ChangeShapes Go.ChangeAt
open Go.ChangeMaps (open_string shut_string)

set_option maxHeartbeats 2000000 in
set_option maxRecDepth 100000 in
theorem walk (a : Nat) (b : Nat) (w : World) (hT : w.cell? TA = some (.int .u8 50)) (ha : a < 2 * signB) (hb : b < 2 * signB) :
    Calls Tryd.prog 9 #[.int .u64 (a : Nat), .int .u64 (b : Nat)] w fun e w' => e = .returned (.bool true) ∧ Below w.heap.size w w' := by
  have la := fneg_lt ha
  have lb := fneg_lt hb
  have ls := (fadd_lt a b).1
  have lp := (fmul_lt a b).1
  have lq := (fdiv_lt a b).1
  have k1 := neg_any ha
  have k2 := neg_any hb
  have k3 := add_any ha hb
  have k4 := mul_any ha hb
  have k5 := add_any la lb
  have k6 := neg_any ls
  have k7 := class_any ls
  have k8 := neg_any la
  rw [fneg_neg ha] at k8
  have k9 := canon_is ha
  have m1 := mul_any la lb
  rw [fmul_negs ha hb] at m1
  have m2 := mul_any la hb
  rw [fmul_neg ha] at m2
  have m3 := neg_any lp
  have m4 := div_any la hb
  rw [fdiv_neg ha] at m4
  have m5 := div_any ha hb
  have m6 := neg_any lq
  have m7 := abs_any la
  rw [fabs_neg ha] at m7
  have m8 := abs_any ha
  have m9 := abs_any (fabs_lt ha)
  rw [fabs_abs] at m9
  have hs := fadd_negs ha hb
  obtain ⟨C, hC⟩ : ∃ z0 : Int, z0 = ((fcan a : Nat) : Int) := ⟨_, rfl⟩
  rw [← hC] at k8 k9
  clear hC
  obtain ⟨E, hE⟩ : ∃ z0 : Int, z0 = ((fneg (fmul a b) : Nat) : Int) := ⟨_, rfl⟩
  rw [← hE] at m2 m3
  clear hE
  obtain ⟨F, hF⟩ : ∃ z0 : Int, z0 = ((fneg (fdiv a b) : Nat) : Int) := ⟨_, rfl⟩
  rw [← hF] at m4 m6
  clear hF
  obtain ⟨G, hG⟩ : ∃ z0 : Int, z0 = ((fabs a : Nat) : Int) := ⟨_, rfl⟩
  rw [← hG] at m7 m8 m9
  clear hG
  obtain ⟨Q, hQ⟩ : ∃ z0 : Int, z0 = ((fdiv a b : Nat) : Int) := ⟨_, rfl⟩
  rw [← hQ] at m5 m6
  clear hQ
  obtain ⟨M, hM⟩ : ∃ z0 : Int, z0 = ((fmul a b : Nat) : Int) := ⟨_, rfl⟩
  rw [← hM] at k4 m1 m3
  clear hM
  obtain ⟨S, hS⟩ : ∃ z0 : Int, z0 = ((fadd a b : Nat) : Int) := ⟨_, rfl⟩
  rw [← hS] at k3 k6 k7
  clear hS
  by_cases z : fclass (fadd a b) = 2
  · rw [z] at k7
    obtain ⟨U, hU⟩ : ∃ z0 : Int, z0 = ((fneg (fadd a b) : Nat) : Int) := ⟨_, rfl⟩
    rw [← hU] at k6
    clear hU
    obtain ⟨V, hV⟩ : ∃ z0 : Int, z0 = ((fadd (fneg a) (fneg b) : Nat) : Int) := ⟨_, rfl⟩
    rw [← hV] at k5
    clear hV
    obtain ⟨X, hX⟩ : ∃ z0 : Int, z0 = ((fneg a : Nat) : Int) := ⟨_, rfl⟩
    rw [← hX] at k1 k5 k8 m1 m2 m4 m7
    clear hX
    obtain ⟨Y, hY⟩ : ∃ z0 : Int, z0 = ((fneg b : Nat) : Int) := ⟨_, rfl⟩
    rw [← hY] at k2 k5 m1
    clear hY
    by_cases e : V = U
    · subst e
      go_enter Tryd.func9, Tryd.ntmps9
      go_wp2_with (first | (go_at_call 14; (first | (refine (awake_any _ hT).mono ?_) | (refine (awake_any _ (cell_keeps (grow_drewN _ _) hT)).mono ?_)); rintro _ _ ⟨rfl, hbel⟩) | (go_at_call 24; first | (with_reducible (refine (k1 _).mono ?_); rintro _ _ ⟨rfl, _, rfl⟩) | (with_reducible (refine (k2 _).mono ?_); rintro _ _ ⟨rfl, _, rfl⟩) | (with_reducible (refine (k6 _).mono ?_); rintro _ _ ⟨rfl, _, rfl⟩) | (with_reducible (refine (k8 _).mono ?_); rintro _ _ ⟨rfl, _, rfl⟩) | (with_reducible (refine (m3 _).mono ?_); rintro _ _ ⟨rfl, _, rfl⟩) | (with_reducible (refine (m6 _).mono ?_); rintro _ _ ⟨rfl, _, rfl⟩)) | (go_at_call 22; first | (with_reducible (refine (k3 _).mono ?_); rintro _ _ ⟨rfl, _, rfl⟩) | (with_reducible (refine (k5 _).mono ?_); rintro _ _ ⟨rfl, _, rfl⟩)) | (go_at_call 23; first | (with_reducible (refine (k4 _).mono ?_); rintro _ _ ⟨rfl, _, rfl⟩) | (with_reducible (refine (m1 _).mono ?_); rintro _ _ ⟨rfl, _, rfl⟩) | (with_reducible (refine (m2 _).mono ?_); rintro _ _ ⟨rfl, _, rfl⟩)) | (go_at_call 25; first | (with_reducible (refine (k7 _).mono ?_); rintro _ _ ⟨rfl, _, rfl⟩)) | (go_at_call 26; first | (with_reducible (refine (k9 _).mono ?_); rintro _ _ ⟨rfl, _, rfl⟩)) | (go_at_call 31; first | (with_reducible (refine (m4 _).mono ?_); rintro _ _ ⟨rfl, _, rfl⟩) | (with_reducible (refine (m5 _).mono ?_); rintro _ _ ⟨rfl, _, rfl⟩)) | (go_at_call 28; first | (with_reducible (refine (m7 _).mono ?_); rintro _ _ ⟨rfl, _, rfl⟩) | (with_reducible (refine (m8 _).mono ?_); rintro _ _ ⟨rfl, _, rfl⟩) | (with_reducible (refine (m9 _).mono ?_); rintro _ _ ⟨rfl, _, rfl⟩)))
      all_goals first | (go_ret; refine ⟨rfl, ?_⟩; (repeat (refine below_drewN ?_ _)); first | exact hbel | exact grow_from hbel | exact Below.refl _ _) | (exfalso; simp_all; done) | (exfalso; simp_all; omega)
    · go_enter Tryd.func9, Tryd.ntmps9
      go_wp2_with (first | (go_at_call 14; (first | (refine (awake_any _ hT).mono ?_) | (refine (awake_any _ (cell_keeps (grow_drewN _ _) hT)).mono ?_)); rintro _ _ ⟨rfl, hbel⟩) | (go_at_call 24; first | (with_reducible (refine (k1 _).mono ?_); rintro _ _ ⟨rfl, _, rfl⟩) | (with_reducible (refine (k2 _).mono ?_); rintro _ _ ⟨rfl, _, rfl⟩) | (with_reducible (refine (k6 _).mono ?_); rintro _ _ ⟨rfl, _, rfl⟩) | (with_reducible (refine (k8 _).mono ?_); rintro _ _ ⟨rfl, _, rfl⟩) | (with_reducible (refine (m3 _).mono ?_); rintro _ _ ⟨rfl, _, rfl⟩) | (with_reducible (refine (m6 _).mono ?_); rintro _ _ ⟨rfl, _, rfl⟩)) | (go_at_call 22; first | (with_reducible (refine (k3 _).mono ?_); rintro _ _ ⟨rfl, _, rfl⟩) | (with_reducible (refine (k5 _).mono ?_); rintro _ _ ⟨rfl, _, rfl⟩)) | (go_at_call 23; first | (with_reducible (refine (k4 _).mono ?_); rintro _ _ ⟨rfl, _, rfl⟩) | (with_reducible (refine (m1 _).mono ?_); rintro _ _ ⟨rfl, _, rfl⟩) | (with_reducible (refine (m2 _).mono ?_); rintro _ _ ⟨rfl, _, rfl⟩)) | (go_at_call 25; first | (with_reducible (refine (k7 _).mono ?_); rintro _ _ ⟨rfl, _, rfl⟩)) | (go_at_call 26; first | (with_reducible (refine (k9 _).mono ?_); rintro _ _ ⟨rfl, _, rfl⟩)) | (go_at_call 31; first | (with_reducible (refine (m4 _).mono ?_); rintro _ _ ⟨rfl, _, rfl⟩) | (with_reducible (refine (m5 _).mono ?_); rintro _ _ ⟨rfl, _, rfl⟩)) | (go_at_call 28; first | (with_reducible (refine (m7 _).mono ?_); rintro _ _ ⟨rfl, _, rfl⟩) | (with_reducible (refine (m8 _).mono ?_); rintro _ _ ⟨rfl, _, rfl⟩) | (with_reducible (refine (m9 _).mono ?_); rintro _ _ ⟨rfl, _, rfl⟩)))
      all_goals first | (go_ret; refine ⟨rfl, ?_⟩; (repeat (refine below_drewN ?_ _)); first | exact hbel | exact grow_from hbel | exact Below.refl _ _) | (exfalso; simp_all; done) | (exfalso; simp_all; omega)
  · have e : fadd (fneg a) (fneg b) = fneg (fadd a b) := by
      rcases hs with h | h
      · exact h
      · exact absurd ((class_zero _).2 h) z
    rw [e] at k5
    obtain ⟨U, hU⟩ : ∃ z0 : Int, z0 = ((fneg (fadd a b) : Nat) : Int) := ⟨_, rfl⟩
    rw [← hU] at k5 k6
    clear hU
    obtain ⟨X, hX⟩ : ∃ z0 : Int, z0 = ((fneg a : Nat) : Int) := ⟨_, rfl⟩
    rw [← hX] at k1 k5 k8 m1 m2 m4 m7
    clear hX
    obtain ⟨Y, hY⟩ : ∃ z0 : Int, z0 = ((fneg b : Nat) : Int) := ⟨_, rfl⟩
    rw [← hY] at k2 k5 m1
    clear hY
    go_enter Tryd.func9, Tryd.ntmps9
    go_wp2_with (first | (go_at_call 14; (first | (refine (awake_any _ hT).mono ?_) | (refine (awake_any _ (cell_keeps (grow_drewN _ _) hT)).mono ?_)); rintro _ _ ⟨rfl, hbel⟩) | (go_at_call 24; first | (with_reducible (refine (k1 _).mono ?_); rintro _ _ ⟨rfl, _, rfl⟩) | (with_reducible (refine (k2 _).mono ?_); rintro _ _ ⟨rfl, _, rfl⟩) | (with_reducible (refine (k6 _).mono ?_); rintro _ _ ⟨rfl, _, rfl⟩) | (with_reducible (refine (k8 _).mono ?_); rintro _ _ ⟨rfl, _, rfl⟩) | (with_reducible (refine (m3 _).mono ?_); rintro _ _ ⟨rfl, _, rfl⟩) | (with_reducible (refine (m6 _).mono ?_); rintro _ _ ⟨rfl, _, rfl⟩)) | (go_at_call 22; first | (with_reducible (refine (k3 _).mono ?_); rintro _ _ ⟨rfl, _, rfl⟩) | (with_reducible (refine (k5 _).mono ?_); rintro _ _ ⟨rfl, _, rfl⟩)) | (go_at_call 23; first | (with_reducible (refine (k4 _).mono ?_); rintro _ _ ⟨rfl, _, rfl⟩) | (with_reducible (refine (m1 _).mono ?_); rintro _ _ ⟨rfl, _, rfl⟩) | (with_reducible (refine (m2 _).mono ?_); rintro _ _ ⟨rfl, _, rfl⟩)) | (go_at_call 25; first | (with_reducible (refine (k7 _).mono ?_); rintro _ _ ⟨rfl, _, rfl⟩)) | (go_at_call 26; first | (with_reducible (refine (k9 _).mono ?_); rintro _ _ ⟨rfl, _, rfl⟩)) | (go_at_call 31; first | (with_reducible (refine (m4 _).mono ?_); rintro _ _ ⟨rfl, _, rfl⟩) | (with_reducible (refine (m5 _).mono ?_); rintro _ _ ⟨rfl, _, rfl⟩)) | (go_at_call 28; first | (with_reducible (refine (m7 _).mono ?_); rintro _ _ ⟨rfl, _, rfl⟩) | (with_reducible (refine (m8 _).mono ?_); rintro _ _ ⟨rfl, _, rfl⟩) | (with_reducible (refine (m9 _).mono ?_); rintro _ _ ⟨rfl, _, rfl⟩)))
    all_goals first | (go_ret; refine ⟨rfl, ?_⟩; (repeat (refine below_drewN ?_ _)); first | exact hbel | exact grow_from hbel | exact Below.refl _ _) | (exfalso; simp_all; done) | (exfalso; simp_all; omega)

-- LIFT
set_option maxRecDepth 100000 in
theorem contract (H : Type) (enc : TypeId × Value → H) (W : World) (base : Nat) (args : Array Value) (ds gs : List (DataW H)) (before : List MemPlace)
    (hval : ∀ (j : Nat) t v, Tryd.f9.params[j]? = some t → args[j]? = some v → Value.okWide Tryd.prog W .any base t v)
    (hW : DataW.Whole enc Tryd.prog Tryd.f9.params.toList Rows.numSignsSpec.vars false W args.toList ds gs before) (hL : laidMetH Tryd.prog Rows.numSignsRow.laid W) :
    Calls Tryd.prog 9 args W fun e W' => ∃ v, e = .returned v ∧ Rows.numSignsSpec.post enc Tryd.prog Tryd.f9 false true false false W args v W' := by
  have hT := cell_of (show laidMetH Tryd.prog laidOf W from hL)
  clear hL
  have hts : Tryd.f9.params.toList.all (fun t => Tryd.prog.readableRec t && decide (t < Tryd.prog.types.size)) = true := by kernel_rfl
  have hW' := hW
  obtain ⟨p, q, hA0, hV, rfl, hfz, hnd⟩ := hW
  have hA : DataW.TrodAll enc Tryd.prog W 0 (fun _ => true) true Tryd.f9.params.toList args.toList ds p := hA0
  rw [Tryd.params9] at hA hval
  obtain ⟨v0, vs0, d0, ds0, p0, q0, hargs, rfl, rfl, h0, r0⟩ := trodAll_cons hA
  obtain ⟨v1, vs1, d1, ds1, p1, q1, rfl, rfl, rfl, h1, r1⟩ := trodAll_cons r0
  obtain ⟨rfl, rfl, rfl⟩ := trodAll_nil r1
  obtain rfl : args = #[v0, v1] := by cases args; simp_all
  obtain ⟨rfl, rfl⟩ := trodVars_none hV
  have hfn : Rows.numSignsSpec.fn H ([d0, d1] ++ []) = { results := [.lit (.bool true)], args := [d0, d1] } := rfl
  have hfin := fun W' (hbel : Below W.heap.size W W') => law_post (f := Tryd.f9) (s := Rows.numSignsSpec) 4 Tryd.laid hts rfl Tryd.underlying4 rfl hfn hW' hbel
  clear hA0 hts hfn
  obtain ⟨a0, rfl, rfl, rfl, w0⟩ := open_int Tryd.underlying22 (hval 0 22 v0 rfl rfl) h0
  obtain ⟨a1, rfl, rfl, rfl, w1⟩ := open_int Tryd.underlying22 (hval 1 22 v1 rfl rfl) h1
  have x0 : 0 ≤ a0 ∧ a0 ≤ 18446744073709551615 := by simpa [Lit.wf, IntKind.min, IntKind.max, IntKind.signed, IntKind.bits] using w0
  obtain ⟨n0, rfl⟩ := Int.eq_ofNat_of_zero_le x0.1
  have x1 : 0 ≤ a1 ∧ a1 ≤ 18446744073709551615 := by simpa [Lit.wf, IntKind.min, IntKind.max, IntKind.signed, IntKind.bits] using w1
  obtain ⟨n1, rfl⟩ := Int.eq_ofNat_of_zero_le x1.1
  exact (walk n0 n1 W hT (by unfold signB; omega) (by unfold signB; omega)).mono fun e W' ⟨he, hg⟩ => ⟨_, he, hfin W' hg⟩

theorem reads (os : Os) {H : Type} (enc : TypeId × Value → H) : ∃ places, DataW.whole enc Tryd.prog ((laidWorld os).forCall (fun _ _ => 0) ⟨#[], #[.int .u64 0, .int .u64 0], []⟩).memory Tryd.f9.params.toList Rows.numSignsSpec.vars false #[.int .u64 0, .int .u64 0].toList 8 = some ([.lit (.int .u64 0), .lit (.int .u64 0)], [], places) :=
  ⟨[], by kernel_rfl⟩
theorem laid_met (os : Os) : laidMet Tryd.prog Rows.numSignsRow.laid ((laidWorld os).forCall (fun _ _ => 0) ⟨#[], #[.int .u64 0, .int .u64 0], []⟩).memory := laid_here os #[.int .u64 0, .int .u64 0]

set_option maxRecDepth 100000 in
theorem lifted (os : Os) (started : os.Started) (H : Type) (enc : TypeId × Value → H) (F : Stop.Interp) :
    ReturnsInHanded {} Tryd.checked os 9 .any ((OpenSpec.ofChange Rows.numSignsSpec).preRow enc Tryd.prog Tryd.f9 Rows.numSignsRow.domain false Rows.numSignsRow.laid) (((OpenSpec.ofChange Rows.numSignsSpec).at F).post enc Tryd.prog Tryd.f9 false true false false) := by
  obtain ⟨places, hx⟩ := reads os enc
  refine returnsInHanded_of_row (C := Tryd.checked) (s := OpenSpec.ofChange Rows.numSignsSpec) Tryd.own started (by kernel_rfl) Tryd.func9
    (witness_row_atRef (enc := enc) (C := Tryd.checked) false (laidWorld os) #[.int .u64 0, .int .u64 0] rfl (by kernel_rfl) (by kernel_rfl) (by kernel_rfl)
      (OpenSpec.preRow_of_cond 8 hx (by kernel_rfl) (fun k hk => by cases hk) (by kernel_rfl) (laid_met os))) ?_
  intro W base args ds gs before hval hW _ _ _ hL _ _
  exact contract H enc W base args ds gs before hval hW hL

theorem said : Rows.NumSignsSaid :=
  OpenClaim.holds_of_cond 9 Tryd.f9 rfl rfl rfl rfl rfl rfl rfl ⟨rfl, rfl, rfl, rfl, rfl⟩ rfl rfl rfl rfl rfl (by kernel_rfl) Tryd.func9 (by kernel_rfl)
    (of_decide_eq_true (by kernel_rfl)) (by unfold Func.isWrapper; first | (rw [if_pos (by decide +kernel)]; kernel_rfl) | (rw [if_neg (by decide +kernel)]; exact ⟨rfl, rfl⟩))
    (fun os started H enc _ F => by rw [OpenClaim.pre_eq_preRow]; exact lifted os started H enc F)

theorem plain (f : FuncId) (fn : Func) (hf : Tryd.pinned.checked.prog.funcNamed "gaffer/gafferlaw01.NumSigns" = some f) (hfn : Tryd.pinned.checked.prog.funcs[f]? = some fn) :
    true = Tryd.pinned.checked.prog.looks [] ∧ ∀ (j : Nat) t, fn.params[j]? = some t → Tryd.pinned.checked.prog.wantsStandIn t = false := by
  obtain rfl : f = 9 := Option.some.inj ((show Tryd.prog.funcNamed "gaffer/gafferlaw01.NumSigns" = some 9 by kernel_rfl).symm.trans hf) |>.symm
  obtain rfl : fn = Tryd.f9 := (Option.some.inj (Tryd.func9.symm.trans hfn)).symm
  refine ⟨by kernel_rfl, fun j t ht => ?_⟩
  rw [Tryd.params9] at ht
  have hm := Array.mem_of_getElem? ht
  simp only [List.mem_toArray, List.mem_cons, List.not_mem_nil, or_false] at hm
  rcases hm with rfl | rfl
  · exact (show Tryd.prog.wantsStandIn 22 = false by kernel_rfl)
  · exact (show Tryd.prog.wantsStandIn 22 = false by kernel_rfl)

theorem proved : Rows.NumSignsCardSaid :=
  Claim7.holds_tied_plain_at .later [] _ _ _ _ said (fun _ h => by cases h) (by kernel_rfl) (fun _ h => by cases h) numSigns_row_tie rfl ⟨rfl, rfl⟩ (by kernel_rfl) rfl plain (by kernel_rfl)

end Go.Proofs.YthbdgdapchplgaaDoor.numSigns
