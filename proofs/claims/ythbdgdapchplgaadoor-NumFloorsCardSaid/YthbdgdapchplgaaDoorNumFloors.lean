/- NumFloors: a floor is whole, not above the number, and less than 1 below it, as a row and as a card. No condition. -/
import Derived.Test.YthbdgdapchplgaaDoorNumRow
set_option maxRecDepth 100000
namespace Go.Proofs.YthbdgdapchplgaaDoor.numFloors
open Go.RowKit Go.WideShapes Go.ChangeShapes Go.ChangeAt
open Go.ChangeMaps (open_string shut_string)

set_option maxHeartbeats 2000000 in
set_option maxRecDepth 100000 in
theorem walk (a : Nat) (w : World) (hT : w.cell? TA = some (.int .u8 50)) (ha : a < 2 * signB) :
    Calls Tryd.prog 8 #[.int .u64 (a : Nat)] w fun e w' => e = .returned (.bool true) ∧ Below w.heap.size w w' := by
  have lf := ffloor_lt ha
  have k1 := floor_any ha
  have k2 := abs_any ha
  have k3 := canon_is ha
  by_cases hg : 4841369599423283200 ≤ fabs a
  · rw [floors_great ha hg] at k1
    have h2 : (4841369599423283200 : Int) ≤ ((fabs a : Nat) : Int) := by omega
    clear hg
    obtain ⟨C, hC⟩ : ∃ z0 : Int, z0 = ((fcan a : Nat) : Int) := ⟨_, rfl⟩
    rw [← hC] at k1 k3
    clear hC
    obtain ⟨B, hB⟩ : ∃ z0 : Int, z0 = ((fabs a : Nat) : Int) := ⟨_, rfl⟩
    rw [← hB] at k2 h2
    clear hB
    by_cases h1 : (9218868437227405312 : Int) ≤ B
    · go_enter Tryd.func8, Tryd.ntmps8
      go_wp2_with (first | (go_at_call 14; (first | (refine (awake_any _ hT).mono ?_) | (refine (awake_any _ (cell_keeps (grow_drewN _ _) hT)).mono ?_)); rintro _ _ ⟨rfl, hbel⟩) | (go_at_call 27; first | (with_reducible (refine (k1 _).mono ?_); rintro _ _ ⟨rfl, _, rfl⟩)) | (go_at_call 28; first | (with_reducible (refine (k2 _).mono ?_); rintro _ _ ⟨rfl, _, rfl⟩)) | (go_at_call 26; first | (with_reducible (refine (k3 _).mono ?_); rintro _ _ ⟨rfl, _, rfl⟩)))
      all_goals first | (go_ret; refine ⟨rfl, ?_⟩; (repeat (refine below_drewN ?_ _)); first | exact hbel | exact grow_from hbel | exact Below.refl _ _) | (exfalso; simp_all; done) | (exfalso; simp_all; omega)
    · go_enter Tryd.func8, Tryd.ntmps8
      go_wp2_with (first | (go_at_call 14; (first | (refine (awake_any _ hT).mono ?_) | (refine (awake_any _ (cell_keeps (grow_drewN _ _) hT)).mono ?_)); rintro _ _ ⟨rfl, hbel⟩) | (go_at_call 27; first | (with_reducible (refine (k1 _).mono ?_); rintro _ _ ⟨rfl, _, rfl⟩)) | (go_at_call 28; first | (with_reducible (refine (k2 _).mono ?_); rintro _ _ ⟨rfl, _, rfl⟩)) | (go_at_call 26; first | (with_reducible (refine (k3 _).mono ?_); rintro _ _ ⟨rfl, _, rfl⟩)))
      all_goals first | (go_ret; refine ⟨rfl, ?_⟩; (repeat (refine below_drewN ?_ _)); first | exact hbel | exact grow_from hbel | exact Below.refl _ _) | (exfalso; simp_all; done) | (exfalso; simp_all; omega)
  · obtain ⟨n, f1, f2, f3, f4, f5, f6, f7, f8⟩ := floors_small ha (by omega)
    have k4 := int_any lf
    have hn : fintR (ffloor a) = (n, 0) := by
      unfold fintR
      rw [f1]
    rw [hn] at k4
    have k5 := sub_any ha lf
    have k6 := less_any ha lf
    rw [f2] at k6
    have k7 := of_any f7 f8
    have k8 := equal_any (fof_lt n) lf
    rw [f3] at k8
    have k9 : Told 15 #[.int .u64 4607182418800017408, .int .u64 ((fsub a (ffloor a) : Nat) : Int)] _ := less_any (a := oneB) (by decide) (fsub_lt a (ffloor a)).1
    rw [f4] at k9
    have m1 := equal_any ha lf
    have m2 := less_any lf ha
    have m3 : Told 22 #[.int .u64 ((ffloor a : Nat) : Int), .int .u64 4607182418800017408] _ := add_any (b := oneB) lf (by decide)
    have m4 := less_any ha (fadd_lt (ffloor a) oneB).1
    rw [f6] at m4
    have h2 : ¬ (4841369599423283200 : Int) ≤ ((fabs a : Nat) : Int) := by omega
    have h1 : ¬ (9218868437227405312 : Int) ≤ ((fabs a : Nat) : Int) := by omega
    clear hg hn f1 f2 f3 f4 f6 f7 f8
    obtain ⟨B, hB⟩ : ∃ z0 : Int, z0 = ((fabs a : Nat) : Int) := ⟨_, rfl⟩
    rw [← hB] at k2 h2 h1
    clear hB
    obtain ⟨S, hS⟩ : ∃ z0 : Int, z0 = ((fadd (ffloor a) oneB : Nat) : Int) := ⟨_, rfl⟩
    rw [← hS] at m3 m4
    clear hS
    obtain ⟨E, hE⟩ : ∃ z0 : Int, z0 = ((fsub a (ffloor a) : Nat) : Int) := ⟨_, rfl⟩
    rw [← hE] at k5 k9
    clear hE
    obtain ⟨G, hG⟩ : ∃ z0 : Int, z0 = ((fof n : Nat) : Int) := ⟨_, rfl⟩
    rw [← hG] at k7 k8
    clear hG
    cases e : fequal a (ffloor a)
    · rw [e] at m1 f5
      have e2 := f5.resolve_left (by decide)
      rw [e2] at m2
      clear f5 e e2
      obtain ⟨X, hX⟩ : ∃ z0 : Int, z0 = ((ffloor a : Nat) : Int) := ⟨_, rfl⟩
      rw [← hX] at k1 k4 k5 k6 k8 m1 m2 m3
      clear hX
      obtain ⟨Y, hY⟩ : ∃ z0 : Int, z0 = ((a : Nat) : Int) := ⟨_, rfl⟩
      rw [← hY] at k1 k2 k5 k6 m1 m2 m4 ⊢
      clear hY
      go_enter Tryd.func8, Tryd.ntmps8
      go_wp2_with (first | (go_at_call 14; (first | (refine (awake_any _ hT).mono ?_) | (refine (awake_any _ (cell_keeps (grow_drewN _ _) hT)).mono ?_)); rintro _ _ ⟨rfl, hbel⟩) | (go_at_call 27; first | (with_reducible (refine (k1 _).mono ?_); rintro _ _ ⟨rfl, _, rfl⟩)) | (go_at_call 28; first | (with_reducible (refine (k2 _).mono ?_); rintro _ _ ⟨rfl, _, rfl⟩)) | (go_at_call 26; first | (with_reducible (refine (k3 _).mono ?_); rintro _ _ ⟨rfl, _, rfl⟩)) | (go_at_call 29; first | (with_reducible (refine (k4 _).mono ?_); rintro _ _ ⟨rfl, _, rfl⟩)) | (go_at_call 21; first | (with_reducible (refine (k5 _).mono ?_); rintro _ _ ⟨rfl, _, rfl⟩)) | (go_at_call 15; first | (with_reducible (refine (k6 _).mono ?_); rintro _ _ ⟨rfl, _, rfl⟩) | (with_reducible (refine (k9 _).mono ?_); rintro _ _ ⟨rfl, _, rfl⟩) | (with_reducible (refine (m2 _).mono ?_); rintro _ _ ⟨rfl, _, rfl⟩) | (with_reducible (refine (m4 _).mono ?_); rintro _ _ ⟨rfl, _, rfl⟩)) | (go_at_call 30; first | (with_reducible (refine (k7 _).mono ?_); rintro _ _ ⟨rfl, _, rfl⟩)) | (go_at_call 17; first | (with_reducible (refine (k8 _).mono ?_); rintro _ _ ⟨rfl, _, rfl⟩) | (with_reducible (refine (m1 _).mono ?_); rintro _ _ ⟨rfl, _, rfl⟩)) | (go_at_call 22; first | (with_reducible (refine (m3 _).mono ?_); rintro _ _ ⟨rfl, _, rfl⟩)))
      all_goals first | (go_ret; refine ⟨rfl, ?_⟩; (repeat (refine below_drewN ?_ _)); first | exact hbel | exact grow_from hbel | exact Below.refl _ _) | (exfalso; simp_all; done) | (exfalso; simp_all; omega)
    · rw [e] at m1
      clear f5 e
      obtain ⟨X, hX⟩ : ∃ z0 : Int, z0 = ((ffloor a : Nat) : Int) := ⟨_, rfl⟩
      rw [← hX] at k1 k4 k5 k6 k8 m1 m2 m3
      clear hX
      obtain ⟨Y, hY⟩ : ∃ z0 : Int, z0 = ((a : Nat) : Int) := ⟨_, rfl⟩
      rw [← hY] at k1 k2 k5 k6 m1 m2 m4 ⊢
      clear hY
      go_enter Tryd.func8, Tryd.ntmps8
      go_wp2_with (first | (go_at_call 14; (first | (refine (awake_any _ hT).mono ?_) | (refine (awake_any _ (cell_keeps (grow_drewN _ _) hT)).mono ?_)); rintro _ _ ⟨rfl, hbel⟩) | (go_at_call 27; first | (with_reducible (refine (k1 _).mono ?_); rintro _ _ ⟨rfl, _, rfl⟩)) | (go_at_call 28; first | (with_reducible (refine (k2 _).mono ?_); rintro _ _ ⟨rfl, _, rfl⟩)) | (go_at_call 26; first | (with_reducible (refine (k3 _).mono ?_); rintro _ _ ⟨rfl, _, rfl⟩)) | (go_at_call 29; first | (with_reducible (refine (k4 _).mono ?_); rintro _ _ ⟨rfl, _, rfl⟩)) | (go_at_call 21; first | (with_reducible (refine (k5 _).mono ?_); rintro _ _ ⟨rfl, _, rfl⟩)) | (go_at_call 15; first | (with_reducible (refine (k6 _).mono ?_); rintro _ _ ⟨rfl, _, rfl⟩) | (with_reducible (refine (k9 _).mono ?_); rintro _ _ ⟨rfl, _, rfl⟩) | (with_reducible (refine (m2 _).mono ?_); rintro _ _ ⟨rfl, _, rfl⟩) | (with_reducible (refine (m4 _).mono ?_); rintro _ _ ⟨rfl, _, rfl⟩)) | (go_at_call 30; first | (with_reducible (refine (k7 _).mono ?_); rintro _ _ ⟨rfl, _, rfl⟩)) | (go_at_call 17; first | (with_reducible (refine (k8 _).mono ?_); rintro _ _ ⟨rfl, _, rfl⟩) | (with_reducible (refine (m1 _).mono ?_); rintro _ _ ⟨rfl, _, rfl⟩)) | (go_at_call 22; first | (with_reducible (refine (m3 _).mono ?_); rintro _ _ ⟨rfl, _, rfl⟩)))
      all_goals first | (go_ret; refine ⟨rfl, ?_⟩; (repeat (refine below_drewN ?_ _)); first | exact hbel | exact grow_from hbel | exact Below.refl _ _) | (exfalso; simp_all; done) | (exfalso; simp_all; omega)

-- LIFT
set_option maxRecDepth 100000 in
theorem contract (H : Type) (enc : TypeId × Value → H) (W : World) (base : Nat) (args : Array Value) (ds gs : List (DataW H)) (before : List MemPlace)
    (hval : ∀ (j : Nat) t v, Tryd.f8.params[j]? = some t → args[j]? = some v → Value.okWide Tryd.prog W .any base t v)
    (hW : DataW.Whole enc Tryd.prog Tryd.f8.params.toList Rows.numFloorsSpec.vars false W args.toList ds gs before) (hL : laidMetH Tryd.prog Rows.numFloorsRow.laid W) :
    Calls Tryd.prog 8 args W fun e W' => ∃ v, e = .returned v ∧ Rows.numFloorsSpec.post enc Tryd.prog Tryd.f8 false true false false W args v W' := by
  have hT := cell_of (show laidMetH Tryd.prog laidOf W from hL)
  clear hL
  have hts : Tryd.f8.params.toList.all (fun t => Tryd.prog.readableRec t && decide (t < Tryd.prog.types.size)) = true := by kernel_rfl
  have hW' := hW
  obtain ⟨p, q, hA0, hV, rfl, hfz, hnd⟩ := hW
  have hA : DataW.TrodAll enc Tryd.prog W 0 (fun _ => true) true Tryd.f8.params.toList args.toList ds p := hA0
  rw [Tryd.params8] at hA hval
  obtain ⟨v0, vs0, d0, ds0, p0, q0, hargs, rfl, rfl, h0, r0⟩ := trodAll_cons hA
  obtain ⟨rfl, rfl, rfl⟩ := trodAll_nil r0
  obtain rfl : args = #[v0] := by cases args; simp_all
  obtain ⟨rfl, rfl⟩ := trodVars_none hV
  have hfn : Rows.numFloorsSpec.fn H ([d0] ++ []) = { results := [.lit (.bool true)], args := [d0] } := rfl
  have hfin := fun W' (hbel : Below W.heap.size W W') => law_post (f := Tryd.f8) (s := Rows.numFloorsSpec) 4 Tryd.laid hts rfl Tryd.underlying4 rfl hfn hW' hbel
  clear hA0 hts hfn
  obtain ⟨a0, rfl, rfl, rfl, w0⟩ := open_int Tryd.underlying22 (hval 0 22 v0 rfl rfl) h0
  have x0 : 0 ≤ a0 ∧ a0 ≤ 18446744073709551615 := by simpa [Lit.wf, IntKind.min, IntKind.max, IntKind.signed, IntKind.bits] using w0
  obtain ⟨n0, rfl⟩ := Int.eq_ofNat_of_zero_le x0.1
  exact (walk n0 W hT (by unfold signB; omega)).mono fun e W' ⟨he, hg⟩ => ⟨_, he, hfin W' hg⟩

theorem reads (os : Os) {H : Type} (enc : TypeId × Value → H) : ∃ places, DataW.whole enc Tryd.prog ((laidWorld os).forCall (fun _ _ => 0) ⟨#[], #[.int .u64 0], []⟩).memory Tryd.f8.params.toList Rows.numFloorsSpec.vars false #[.int .u64 0].toList 8 = some ([.lit (.int .u64 0)], [], places) :=
  ⟨[], by kernel_rfl⟩
theorem laid_met (os : Os) : laidMet Tryd.prog Rows.numFloorsRow.laid ((laidWorld os).forCall (fun _ _ => 0) ⟨#[], #[.int .u64 0], []⟩).memory := laid_here os #[.int .u64 0]

set_option maxRecDepth 100000 in
theorem lifted (os : Os) (started : os.Started) (H : Type) (enc : TypeId × Value → H) (F : Stop.Interp) :
    ReturnsInHanded {} Tryd.checked os 8 .any ((OpenSpec.ofChange Rows.numFloorsSpec).preRow enc Tryd.prog Tryd.f8 Rows.numFloorsRow.domain false Rows.numFloorsRow.laid) (((OpenSpec.ofChange Rows.numFloorsSpec).at F).post enc Tryd.prog Tryd.f8 false true false false) := by
  obtain ⟨places, hx⟩ := reads os enc
  refine returnsInHanded_of_row (C := Tryd.checked) (s := OpenSpec.ofChange Rows.numFloorsSpec) Tryd.own started (by kernel_rfl) Tryd.func8
    (witness_row_atRef (enc := enc) (C := Tryd.checked) false (laidWorld os) #[.int .u64 0] rfl (by kernel_rfl) (by kernel_rfl) (by kernel_rfl)
      (OpenSpec.preRow_of_cond 8 hx (by kernel_rfl) (fun k hk => by cases hk) (by kernel_rfl) (laid_met os))) ?_
  intro W base args ds gs before hval hW _ _ _ hL _ _
  exact contract H enc W base args ds gs before hval hW hL

theorem said : Rows.NumFloorsSaid :=
  OpenClaim.holds_of_cond 8 Tryd.f8 rfl rfl rfl rfl rfl rfl rfl ⟨rfl, rfl, rfl, rfl, rfl⟩ rfl rfl rfl rfl rfl (by kernel_rfl) Tryd.func8 (by kernel_rfl)
    (of_decide_eq_true (by kernel_rfl)) (by unfold Func.isWrapper; first | (rw [if_pos (by decide +kernel)]; kernel_rfl) | (rw [if_neg (by decide +kernel)]; exact ⟨rfl, rfl⟩))
    (fun os started H enc _ F => by rw [OpenClaim.pre_eq_preRow]; exact lifted os started H enc F)

theorem plain (f : FuncId) (fn : Func) (hf : Tryd.pinned.checked.prog.funcNamed "gaffer/gafferlaw01.NumFloors" = some f) (hfn : Tryd.pinned.checked.prog.funcs[f]? = some fn) :
    true = Tryd.pinned.checked.prog.looks [] ∧ ∀ (j : Nat) t, fn.params[j]? = some t → Tryd.pinned.checked.prog.wantsStandIn t = false := by
  obtain rfl : f = 8 := Option.some.inj ((show Tryd.prog.funcNamed "gaffer/gafferlaw01.NumFloors" = some 8 by kernel_rfl).symm.trans hf) |>.symm
  obtain rfl : fn = Tryd.f8 := (Option.some.inj (Tryd.func8.symm.trans hfn)).symm
  refine ⟨by kernel_rfl, fun j t ht => ?_⟩
  rw [Tryd.params8] at ht
  have hm := Array.mem_of_getElem? ht
  simp only [List.mem_toArray, List.mem_cons, List.not_mem_nil, or_false] at hm
  rcases hm with rfl
  · exact (show Tryd.prog.wantsStandIn 22 = false by kernel_rfl)

theorem proved : Rows.NumFloorsCardSaid :=
  Claim7.holds_tied_plain_at .later [] _ _ _ _ said (fun _ h => by cases h) (by kernel_rfl) (fun _ h => by cases h) numFloors_row_tie rfl ⟨rfl, rfl⟩ (by kernel_rfl) rfl plain (by kernel_rfl)

end Go.Proofs.YthbdgdapchplgaaDoor.numFloors
