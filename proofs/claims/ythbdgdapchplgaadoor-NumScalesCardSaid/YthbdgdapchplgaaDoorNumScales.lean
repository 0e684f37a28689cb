/- NumScales: powers of 2 are exact, as a row and as a card. No condition. -/
import Derived.Test.YthbdgdapchplgaaDoorNumRow
set_option maxRecDepth 100000
namespace Go.Proofs.YthbdgdapchplgaaDoor.numScales
open Go.RowKit Go.WideShapes Go.ChangeShapes Go.ChangeAt
open Go.ChangeMaps (open_string shut_string)

set_option maxHeartbeats 2000000 in
set_option maxRecDepth 100000 in
theorem walk (a : Nat) (k : Int) (w : World) (hT : w.cell? TA = some (.int .u8 50)) (ha : a < 2 * signB) (hk0 : -9223372036854775808 ≤ k) (hk1 : k ≤ 9223372036854775807) :
    Calls Tryd.prog 10 #[.int .u64 (a : Nat), .int .i64 k] w fun e w' => e = .returned (.bool true) ∧ Below w.heap.size w w' := by
  by_cases c1 : k < -1000
  · go_enter Tryd.func10, Tryd.ntmps10
    go_wp2_with (first | (go_at_call 14; (first | (refine (awake_any _ hT).mono ?_) | (refine (awake_any _ (cell_keeps (grow_drewN _ _) hT)).mono ?_)); rintro _ _ ⟨rfl, hbel⟩))
    all_goals first | (go_ret; refine ⟨rfl, ?_⟩; (repeat (refine below_drewN ?_ _)); first | exact hbel | exact grow_from hbel | exact Below.refl _ _) | (exfalso; simp_all; done) | (exfalso; simp_all; omega)
  by_cases c2 : (1000 : Int) < k
  · go_enter Tryd.func10, Tryd.ntmps10
    go_wp2_with (first | (go_at_call 14; (first | (refine (awake_any _ hT).mono ?_) | (refine (awake_any _ (cell_keeps (grow_drewN _ _) hT)).mono ?_)); rintro _ _ ⟨rfl, hbel⟩))
    all_goals first | (go_ret; refine ⟨rfl, ?_⟩; (repeat (refine below_drewN ?_ _)); first | exact hbel | exact grow_from hbel | exact Below.refl _ _) | (exfalso; simp_all; done) | (exfalso; simp_all; omega)
  have hk : -1000 ≤ k ∧ k ≤ 1000 := ⟨by omega, by omega⟩
  obtain ⟨up, hup⟩ : ∃ u, u = pow2 k := ⟨_, rfl⟩
  obtain ⟨dn, hdn⟩ : ∃ u, u = pow2 (-k) := ⟨_, rfl⟩
  have lu : up < 2 * signB := by
    have := (pow2_taken hk).1
    rw [← hup] at this
    unfold infB at this
    unfold signB
    omega
  have ld : dn < 2 * signB := by
    have := (pow2_taken (k := -k) (by omega)).1
    rw [← hdn] at this
    unfold infB at this
    unfold signB
    omega
  have w1 : IntKind.i64.wrap (1023 + k) = 1023 + k := by
    rw [IntKind.wrap_i64]
    omega
  have w2 : IntKind.i64.wrap (1023 - k) = 1023 - k := by
    rw [IntKind.wrap_i64]
    omega
  have w3 : IntKind.u64.wrap (1023 + k) = 1023 + k := by
    rw [IntKind.wrap_u64]
    omega
  have w4 : IntKind.u64.wrap (1023 - k) = 1023 - k := by
    rw [IntKind.wrap_u64]
    omega
  have w5 : IntKind.u64.wrap ((1023 + k) * 4503599627370496) = ((up : Nat) : Int) := by
    rw [hup, IntKind.wrap_u64]
    unfold pow2
    omega
  have w6 : IntKind.u64.wrap ((1023 - k) * 4503599627370496) = ((dn : Nat) : Int) := by
    rw [hdn, IntKind.wrap_u64]
    unfold pow2
    omega
  obtain ⟨s1, s2⟩ := scales ha hk
  rw [← hup] at s1 s2
  rw [← hdn] at s1 s2
  clear hup hdn hk
  have lx := (fmul_lt a up).1
  have k1 := mul_any ha lu
  have k2 := div_any ha ld
  rw [s1] at k2
  have k3 := class_any ha
  have k4 := class_any lx
  have k5 := abs_any lx
  have k6 := mul_any lx ld
  have k7 := div_any lx lu
  clear s1
  by_cases h1 : fclass a = 4
  rotate_left
  · clear s2
    obtain ⟨A, hvA⟩ : ∃ z0 : Int, z0 = fclass a := ⟨_, rfl⟩
    rw [← hvA] at k3 h1
    clear hvA
    obtain ⟨X, hvX⟩ : ∃ z0 : Int, z0 = ((fmul a up : Nat) : Int) := ⟨_, rfl⟩
    rw [← hvX] at k1 k2 k4 k5 k6 k7
    clear hvX
    go_enter Tryd.func10, Tryd.ntmps10
    go_wp2_with (first | (go_at_call 14; (first | (refine (awake_any _ hT).mono ?_) | (refine (awake_any _ (cell_keeps (grow_drewN _ _) hT)).mono ?_)); rintro _ _ ⟨rfl, hbel⟩) | (go_at_call 23; first | (with_reducible (refine (k1 _).mono ?_); rintro _ _ ⟨rfl, _, rfl⟩)) | (go_at_call 31; first | (with_reducible (refine (k2 _).mono ?_); rintro _ _ ⟨rfl, _, rfl⟩)) | (go_at_call 25; first | (with_reducible (refine (k3 _).mono ?_); rintro _ _ ⟨rfl, _, rfl⟩)))
    all_goals first | (go_ret; refine ⟨rfl, ?_⟩; (repeat (refine below_drewN ?_ _)); first | exact hbel | exact grow_from hbel | exact Below.refl _ _) | (exfalso; simp_all; done) | (exfalso; simp_all; omega)
  rw [h1] at k3
  by_cases h2 : fclass (fmul a up) = 4
  rotate_left
  · clear s2
    obtain ⟨A, hvA⟩ : ∃ z0 : Int, z0 = fclass (fmul a up) := ⟨_, rfl⟩
    rw [← hvA] at k4 h2
    clear hvA
    obtain ⟨X, hvX⟩ : ∃ z0 : Int, z0 = ((fmul a up : Nat) : Int) := ⟨_, rfl⟩
    rw [← hvX] at k1 k2 k4 k5 k6 k7
    clear hvX
    go_enter Tryd.func10, Tryd.ntmps10
    go_wp2_with (first | (go_at_call 14; (first | (refine (awake_any _ hT).mono ?_) | (refine (awake_any _ (cell_keeps (grow_drewN _ _) hT)).mono ?_)); rintro _ _ ⟨rfl, hbel⟩) | (go_at_call 23; first | (with_reducible (refine (k1 _).mono ?_); rintro _ _ ⟨rfl, _, rfl⟩)) | (go_at_call 31; first | (with_reducible (refine (k2 _).mono ?_); rintro _ _ ⟨rfl, _, rfl⟩)) | (go_at_call 25; first | (with_reducible (refine (k3 _).mono ?_); rintro _ _ ⟨rfl, _, rfl⟩) | (with_reducible (refine (k4 _).mono ?_); rintro _ _ ⟨rfl, _, rfl⟩)))
    all_goals first | (go_ret; refine ⟨rfl, ?_⟩; (repeat (refine below_drewN ?_ _)); first | exact hbel | exact grow_from hbel | exact Below.refl _ _) | (exfalso; simp_all; done) | (exfalso; simp_all; omega)
  rw [h2] at k4
  by_cases h3 : ((fabs (fmul a up) : Nat) : Int) ≤ 4503599627370496
  · clear s2
    obtain ⟨B, hvB⟩ : ∃ z0 : Int, z0 = ((fabs (fmul a up) : Nat) : Int) := ⟨_, rfl⟩
    rw [← hvB] at k5 h3
    clear hvB
    obtain ⟨X, hvX⟩ : ∃ z0 : Int, z0 = ((fmul a up : Nat) : Int) := ⟨_, rfl⟩
    rw [← hvX] at k1 k2 k4 k5 k6 k7
    clear hvX
    go_enter Tryd.func10, Tryd.ntmps10
    go_wp2_with (first | (go_at_call 14; (first | (refine (awake_any _ hT).mono ?_) | (refine (awake_any _ (cell_keeps (grow_drewN _ _) hT)).mono ?_)); rintro _ _ ⟨rfl, hbel⟩) | (go_at_call 23; first | (with_reducible (refine (k1 _).mono ?_); rintro _ _ ⟨rfl, _, rfl⟩)) | (go_at_call 31; first | (with_reducible (refine (k2 _).mono ?_); rintro _ _ ⟨rfl, _, rfl⟩)) | (go_at_call 25; first | (with_reducible (refine (k3 _).mono ?_); rintro _ _ ⟨rfl, _, rfl⟩) | (with_reducible (refine (k4 _).mono ?_); rintro _ _ ⟨rfl, _, rfl⟩)) | (go_at_call 28; first | (with_reducible (refine (k5 _).mono ?_); rintro _ _ ⟨rfl, _, rfl⟩)))
    all_goals first | (go_ret; refine ⟨rfl, ?_⟩; (repeat (refine below_drewN ?_ _)); first | exact hbel | exact grow_from hbel | exact Below.refl _ _) | (exfalso; simp_all; done) | (exfalso; simp_all; omega)
  obtain ⟨e1, e2⟩ := s2 h1 h2 (by omega)
  rw [e1] at k6
  rw [e2] at k7
  clear e1 e2 s2 h1 h2
  obtain ⟨B, hvB⟩ : ∃ z0 : Int, z0 = ((fabs (fmul a up) : Nat) : Int) := ⟨_, rfl⟩
  rw [← hvB] at k5 h3
  clear hvB
  obtain ⟨X, hvX⟩ : ∃ z0 : Int, z0 = ((fmul a up : Nat) : Int) := ⟨_, rfl⟩
  rw [← hvX] at k1 k2 k4 k5 k6 k7
  clear hvX
  go_enter Tryd.func10, Tryd.ntmps10
  go_wp2_with (first | (go_at_call 14; (first | (refine (awake_any _ hT).mono ?_) | (refine (awake_any _ (cell_keeps (grow_drewN _ _) hT)).mono ?_)); rintro _ _ ⟨rfl, hbel⟩) | (go_at_call 23; first | (with_reducible (refine (k1 _).mono ?_); rintro _ _ ⟨rfl, _, rfl⟩) | (with_reducible (refine (k6 _).mono ?_); rintro _ _ ⟨rfl, _, rfl⟩)) | (go_at_call 31; first | (with_reducible (refine (k2 _).mono ?_); rintro _ _ ⟨rfl, _, rfl⟩) | (with_reducible (refine (k7 _).mono ?_); rintro _ _ ⟨rfl, _, rfl⟩)) | (go_at_call 25; first | (with_reducible (refine (k3 _).mono ?_); rintro _ _ ⟨rfl, _, rfl⟩) | (with_reducible (refine (k4 _).mono ?_); rintro _ _ ⟨rfl, _, rfl⟩)) | (go_at_call 28; first | (with_reducible (refine (k5 _).mono ?_); rintro _ _ ⟨rfl, _, rfl⟩)))
  all_goals first | (go_ret; refine ⟨rfl, ?_⟩; (repeat (refine below_drewN ?_ _)); first | exact hbel | exact grow_from hbel | exact Below.refl _ _) | (exfalso; simp_all; done) | (exfalso; simp_all; omega)

-- LIFT
set_option maxRecDepth 100000 in
theorem contract (H : Type) (enc : TypeId × Value → H) (W : World) (base : Nat) (args : Array Value) (ds gs : List (DataW H)) (before : List MemPlace)
    (hval : ∀ (j : Nat) t v, Tryd.f10.params[j]? = some t → args[j]? = some v → Value.okWide Tryd.prog W .any base t v)
    (hW : DataW.Whole enc Tryd.prog Tryd.f10.params.toList Rows.numScalesSpec.vars false W args.toList ds gs before) (hL : laidMetH Tryd.prog Rows.numScalesRow.laid W) :
    Calls Tryd.prog 10 args W fun e W' => ∃ v, e = .returned v ∧ Rows.numScalesSpec.post enc Tryd.prog Tryd.f10 false true false false W args v W' := by
  have hT := cell_of (show laidMetH Tryd.prog laidOf W from hL)
  clear hL
  have hts : Tryd.f10.params.toList.all (fun t => Tryd.prog.readableRec t && decide (t < Tryd.prog.types.size)) = true := by kernel_rfl
  have hW' := hW
  obtain ⟨p, q, hA0, hV, rfl, hfz, hnd⟩ := hW
  have hA : DataW.TrodAll enc Tryd.prog W 0 (fun _ => true) true Tryd.f10.params.toList args.toList ds p := hA0
  rw [Tryd.params10] at hA hval
  obtain ⟨v0, vs0, d0, ds0, p0, q0, hargs, rfl, rfl, h0, r0⟩ := trodAll_cons hA
  obtain ⟨v1, vs1, d1, ds1, p1, q1, rfl, rfl, rfl, h1, r1⟩ := trodAll_cons r0
  obtain ⟨rfl, rfl, rfl⟩ := trodAll_nil r1
  obtain rfl : args = #[v0, v1] := by cases args; simp_all
  obtain ⟨rfl, rfl⟩ := trodVars_none hV
  have hfn : Rows.numScalesSpec.fn H ([d0, d1] ++ []) = { results := [.lit (.bool true)], args := [d0, d1] } := rfl
  have hfin := fun W' (hbel : Below W.heap.size W W') => law_post (f := Tryd.f10) (s := Rows.numScalesSpec) 4 Tryd.laid hts rfl Tryd.underlying4 rfl hfn hW' hbel
  clear hA0 hts hfn
  obtain ⟨a0, rfl, rfl, rfl, w0⟩ := open_int Tryd.underlying22 (hval 0 22 v0 rfl rfl) h0
  obtain ⟨a1, rfl, rfl, rfl, w1⟩ := open_int Tryd.underlying3 (hval 1 3 v1 rfl rfl) h1
  have x0 : 0 ≤ a0 ∧ a0 ≤ 18446744073709551615 := by simpa [Lit.wf, IntKind.min, IntKind.max, IntKind.signed, IntKind.bits] using w0
  obtain ⟨n0, rfl⟩ := Int.eq_ofNat_of_zero_le x0.1
  have x1 : -9223372036854775808 ≤ a1 ∧ a1 ≤ 9223372036854775807 := by simpa [Lit.wf, IntKind.min, IntKind.max, IntKind.signed, IntKind.bits] using w1
  exact (walk n0 a1 W hT (by unfold signB; omega) x1.1 x1.2).mono fun e W' ⟨he, hg⟩ => ⟨_, he, hfin W' hg⟩

theorem reads (os : Os) {H : Type} (enc : TypeId × Value → H) : ∃ places, DataW.whole enc Tryd.prog ((laidWorld os).forCall (fun _ _ => 0) ⟨#[], #[.int .u64 0, .int .i64 0], []⟩).memory Tryd.f10.params.toList Rows.numScalesSpec.vars false #[.int .u64 0, .int .i64 0].toList 8 = some ([.lit (.int .u64 0), .lit (.int .i64 0)], [], places) :=
  ⟨[], by kernel_rfl⟩
theorem laid_met (os : Os) : laidMet Tryd.prog Rows.numScalesRow.laid ((laidWorld os).forCall (fun _ _ => 0) ⟨#[], #[.int .u64 0, .int .i64 0], []⟩).memory := laid_here os #[.int .u64 0, .int .i64 0]

set_option maxRecDepth 100000 in
theorem lifted (os : Os) (started : os.Started) (H : Type) (enc : TypeId × Value → H) (F : Stop.Interp) :
    ReturnsInHanded {} Tryd.checked os 10 .any ((OpenSpec.ofChange Rows.numScalesSpec).preRow enc Tryd.prog Tryd.f10 Rows.numScalesRow.domain false Rows.numScalesRow.laid) (((OpenSpec.ofChange Rows.numScalesSpec).at F).post enc Tryd.prog Tryd.f10 false true false false) := by
  obtain ⟨places, hx⟩ := reads os enc
  refine returnsInHanded_of_row (C := Tryd.checked) (s := OpenSpec.ofChange Rows.numScalesSpec) Tryd.own started (by kernel_rfl) Tryd.func10
    (witness_row_atRef (enc := enc) (C := Tryd.checked) false (laidWorld os) #[.int .u64 0, .int .i64 0] rfl (by kernel_rfl) (by kernel_rfl) (by kernel_rfl)
      (OpenSpec.preRow_of_cond 8 hx (by kernel_rfl) (fun k hk => by cases hk) (by kernel_rfl) (laid_met os))) ?_
  intro W base args ds gs before hval hW _ _ _ hL _ _
  exact contract H enc W base args ds gs before hval hW hL

theorem said : Rows.NumScalesSaid :=
  OpenClaim.holds_of_cond 10 Tryd.f10 rfl rfl rfl rfl rfl rfl rfl ⟨rfl, rfl, rfl, rfl, rfl⟩ rfl rfl rfl rfl rfl (by kernel_rfl) Tryd.func10 (by kernel_rfl)
    (of_decide_eq_true (by kernel_rfl)) (by unfold Func.isWrapper; first | (rw [if_pos (by decide +kernel)]; kernel_rfl) | (rw [if_neg (by decide +kernel)]; exact ⟨rfl, rfl⟩))
    (fun os started H enc _ F => by rw [OpenClaim.pre_eq_preRow]; exact lifted os started H enc F)

theorem plain (f : FuncId) (fn : Func) (hf : Tryd.pinned.checked.prog.funcNamed "gaffer/gafferlaw01.NumScales" = some f) (hfn : Tryd.pinned.checked.prog.funcs[f]? = some fn) :
    true = Tryd.pinned.checked.prog.looks [] ∧ ∀ (j : Nat) t, fn.params[j]? = some t → Tryd.pinned.checked.prog.wantsStandIn t = false := by
  obtain rfl : f = 10 := Option.some.inj ((show Tryd.prog.funcNamed "gaffer/gafferlaw01.NumScales" = some 10 by kernel_rfl).symm.trans hf) |>.symm
  obtain rfl : fn = Tryd.f10 := (Option.some.inj (Tryd.func10.symm.trans hfn)).symm
  refine ⟨by kernel_rfl, fun j t ht => ?_⟩
  rw [Tryd.params10] at ht
  have hm := Array.mem_of_getElem? ht
  simp only [List.mem_toArray, List.mem_cons, List.not_mem_nil, or_false] at hm
  rcases hm with rfl | rfl
  · exact (show Tryd.prog.wantsStandIn 22 = false by kernel_rfl)
  · exact (show Tryd.prog.wantsStandIn 3 = false by kernel_rfl)

theorem proved : Rows.NumScalesCardSaid :=
  Claim7.holds_tied_plain_at .later [] _ _ _ _ said (fun _ h => by cases h) (by kernel_rfl) (fun _ h => by cases h) numScales_row_tie rfl ⟨rfl, rfl⟩ (by kernel_rfl) rfl plain (by kernel_rfl)

end Go.Proofs.YthbdgdapchplgaaDoor.numScales
