/- NumSterbenz: near numbers' differences are exact, as a row and as a card. No condition. -/
import Derived.Test.YthbdgdapchplgaaDoorNumRow
set_option maxRecDepth 100000
namespace Go.Proofs.YthbdgdapchplgaaDoor.numSterbenz
open Go.RowKit Go.WideShapes Go.ChangeShapes Go.ChangeAt
open Go.ChangeMaps (open_string shut_string)

set_option maxHeartbeats 2000000 in
set_option maxRecDepth 100000 in
theorem walk (a : Nat) (b : Nat) (w : World) (hT : w.cell? TA = some (.int .u8 50)) (ha : a < 2 * signB) (hb : b < 2 * signB) :
    Calls Tryd.prog 5 #[.int .u64 (a : Nat), .int .u64 (b : Nat)] w fun e w' => e = .returned (.bool true) ∧ Below w.heap.size w w' := by
  have k1 := add_any ha ha
  have k2 := add_any hb hb
  have k3 := less_any (fadd_lt a a).1 hb
  have k4 := less_any (fadd_lt b b).1 ha
  have k5 := sub_any ha hb
  have k6 := sub_any hb ha
  have k7 := add_any (fsub_lt a b).1 hb
  have k8 := add_any (fsub_lt b a).1 ha
  by_cases ca : a = 0
  · subst ca
    go_enter Tryd.func5, Tryd.ntmps5
    go_wp2_with (first | (go_at_call 14; (first | (refine (awake_any _ hT).mono ?_) | (refine (awake_any _ (cell_keeps (grow_drewN _ _) hT)).mono ?_)); rintro _ _ ⟨rfl, hbel⟩) | (go_at_call 22; first | (with_reducible (refine (k1 _).mono ?_); rintro _ _ ⟨rfl, _, rfl⟩)))
    all_goals first | (go_ret; refine ⟨rfl, ?_⟩; (repeat (refine below_drewN ?_ _)); first | exact hbel | exact grow_from hbel | exact Below.refl _ _) | (exfalso; simp_all; done) | (exfalso; simp_all; omega)
  by_cases cb : b = 0
  · subst cb
    have ca' : ¬ ((a : Nat) : Int) = 0 := by omega
    go_enter Tryd.func5, Tryd.ntmps5
    go_wp2_with (first | (go_at_call 14; (first | (refine (awake_any _ hT).mono ?_) | (refine (awake_any _ (cell_keeps (grow_drewN _ _) hT)).mono ?_)); rintro _ _ ⟨rfl, hbel⟩) | (go_at_call 22; first | (with_reducible (refine (k1 _).mono ?_); rintro _ _ ⟨rfl, _, rfl⟩)))
    all_goals first | (go_ret; refine ⟨rfl, ?_⟩; (repeat (refine below_drewN ?_ _)); first | exact hbel | exact grow_from hbel | exact Below.refl _ _) | (exfalso; simp_all; done) | (exfalso; simp_all; omega)
  have ca' : ¬ ((a : Nat) : Int) = 0 := by omega
  have cb' : ¬ ((b : Nat) : Int) = 0 := by omega
  by_cases ia : infB ≤ a
  · have ia' : (9218868437227405312 : Int) ≤ ((a : Nat) : Int) := by unfold infB at ia; omega
    obtain ⟨A, hA⟩ : ∃ z0 : Int, z0 = ((a : Nat) : Int) := ⟨_, rfl⟩
    rw [← hA] at k1 ca' ia' ⊢
    clear hA
    obtain ⟨B, hB⟩ : ∃ z0 : Int, z0 = ((b : Nat) : Int) := ⟨_, rfl⟩
    rw [← hB] at k2 cb' ⊢
    clear hB
    go_enter Tryd.func5, Tryd.ntmps5
    go_wp2_with (first | (go_at_call 14; (first | (refine (awake_any _ hT).mono ?_) | (refine (awake_any _ (cell_keeps (grow_drewN _ _) hT)).mono ?_)); rintro _ _ ⟨rfl, hbel⟩) | (go_at_call 22; first | (with_reducible (refine (k1 _).mono ?_); rintro _ _ ⟨rfl, _, rfl⟩)))
    all_goals first | (go_ret; refine ⟨rfl, ?_⟩; (repeat (refine below_drewN ?_ _)); first | exact hbel | exact grow_from hbel | exact Below.refl _ _) | (exfalso; simp_all; done) | (exfalso; simp_all; omega)
  have ia' : ¬ (9218868437227405312 : Int) ≤ ((a : Nat) : Int) := by unfold infB at ia; omega
  by_cases ib : infB ≤ b
  · have ib' : (9218868437227405312 : Int) ≤ ((b : Nat) : Int) := by unfold infB at ib; omega
    obtain ⟨A, hA⟩ : ∃ z0 : Int, z0 = ((a : Nat) : Int) := ⟨_, rfl⟩
    rw [← hA] at k1 ca' ia' ⊢
    clear hA
    obtain ⟨B, hB⟩ : ∃ z0 : Int, z0 = ((b : Nat) : Int) := ⟨_, rfl⟩
    rw [← hB] at k2 cb' ib' ⊢
    clear hB
    go_enter Tryd.func5, Tryd.ntmps5
    go_wp2_with (first | (go_at_call 14; (first | (refine (awake_any _ hT).mono ?_) | (refine (awake_any _ (cell_keeps (grow_drewN _ _) hT)).mono ?_)); rintro _ _ ⟨rfl, hbel⟩) | (go_at_call 22; first | (with_reducible (refine (k1 _).mono ?_); rintro _ _ ⟨rfl, _, rfl⟩)))
    all_goals first | (go_ret; refine ⟨rfl, ?_⟩; (repeat (refine below_drewN ?_ _)); first | exact hbel | exact grow_from hbel | exact Below.refl _ _) | (exfalso; simp_all; done) | (exfalso; simp_all; omega)
  have ib' : ¬ (9218868437227405312 : Int) ≤ ((b : Nat) : Int) := by unfold infB at ib; omega
  have fa : Fin_ a := ⟨ha, by unfold infB signB at *; omega⟩
  have fb : Fin_ b := ⟨hb, by unfold infB signB at *; omega⟩
  have na := fadd_fin fa fa
  have nb := fadd_fin fb fb
  have s1 : fless (fadd a a) b = false → fless (fadd b b) a = false → fadd (fsub a b) b = a ∧ fadd (fsub b a) a = b := by
    intro h1 h2
    rw [fless_val (fadd_lt a a).1 hb, na, fb.no] at h1
    rw [fless_val (fadd_lt b b).1 ha, nb, fa.no] at h2
    simp only [Bool.not_false, Bool.true_and, decide_eq_false_iff_not] at h1 h2
    exact ⟨sterbenz (by omega) (by omega) (by omega) (by omega) h1 h2, sterbenz (by omega) (by omega) (by omega) (by omega) h2 h1⟩
  clear fa fb na nb
  cases h1 : fless (fadd a a) b
  · cases h2 : fless (fadd b b) a
    · obtain ⟨e1, e2⟩ := s1 h1 h2
      rw [e1] at k7
      rw [e2] at k8
      rw [h1] at k3
      rw [h2] at k4
      clear s1 h1 h2 e1 e2 ca cb ia ib ha hb
      obtain ⟨S, hS⟩ : ∃ z0 : Int, z0 = ((fadd a a : Nat) : Int) := ⟨_, rfl⟩
      rw [← hS] at k1 k3
      clear hS
      obtain ⟨T, hT⟩ : ∃ z0 : Int, z0 = ((fadd b b : Nat) : Int) := ⟨_, rfl⟩
      rw [← hT] at k2 k4
      clear hT
      obtain ⟨U, hU⟩ : ∃ z0 : Int, z0 = ((fsub a b : Nat) : Int) := ⟨_, rfl⟩
      rw [← hU] at k5 k7
      clear hU
      obtain ⟨V, hV⟩ : ∃ z0 : Int, z0 = ((fsub b a : Nat) : Int) := ⟨_, rfl⟩
      rw [← hV] at k6 k8
      clear hV
      obtain ⟨A, hA⟩ : ∃ z0 : Int, z0 = ((a : Nat) : Int) := ⟨_, rfl⟩
      rw [← hA] at k1 k4 k5 k6 k7 k8 ca' ia' ⊢
      clear hA
      obtain ⟨B, hB⟩ : ∃ z0 : Int, z0 = ((b : Nat) : Int) := ⟨_, rfl⟩
      rw [← hB] at k2 k3 k5 k6 k7 k8 cb' ib' ⊢
      clear hB
      go_enter Tryd.func5, Tryd.ntmps5
      go_wp2_with (first | (go_at_call 14; (first | (refine (awake_any _ hT).mono ?_) | (refine (awake_any _ (cell_keeps (grow_drewN _ _) hT)).mono ?_)); rintro _ _ ⟨rfl, hbel⟩) | (go_at_call 22; first | (with_reducible (refine (k1 _).mono ?_); rintro _ _ ⟨rfl, _, rfl⟩) | (with_reducible (refine (k2 _).mono ?_); rintro _ _ ⟨rfl, _, rfl⟩) | (with_reducible (refine (k7 _).mono ?_); rintro _ _ ⟨rfl, _, rfl⟩) | (with_reducible (refine (k8 _).mono ?_); rintro _ _ ⟨rfl, _, rfl⟩)) | (go_at_call 15; first | (with_reducible (refine (k3 _).mono ?_); rintro _ _ ⟨rfl, _, rfl⟩) | (with_reducible (refine (k4 _).mono ?_); rintro _ _ ⟨rfl, _, rfl⟩)) | (go_at_call 21; first | (with_reducible (refine (k5 _).mono ?_); rintro _ _ ⟨rfl, _, rfl⟩) | (with_reducible (refine (k6 _).mono ?_); rintro _ _ ⟨rfl, _, rfl⟩)))
      all_goals first | (go_ret; refine ⟨rfl, ?_⟩; (repeat (refine below_drewN ?_ _)); first | exact hbel | exact grow_from hbel | exact Below.refl _ _) | (exfalso; simp_all; done) | (exfalso; simp_all; omega)
    · rw [h1] at k3
      rw [h2] at k4
      clear s1 h1 h2 ca cb ia ib ha hb k5 k6 k7 k8
      obtain ⟨S, hS⟩ : ∃ z0 : Int, z0 = ((fadd a a : Nat) : Int) := ⟨_, rfl⟩
      rw [← hS] at k1 k3
      clear hS
      obtain ⟨T, hT⟩ : ∃ z0 : Int, z0 = ((fadd b b : Nat) : Int) := ⟨_, rfl⟩
      rw [← hT] at k2 k4
      clear hT
      obtain ⟨A, hA⟩ : ∃ z0 : Int, z0 = ((a : Nat) : Int) := ⟨_, rfl⟩
      rw [← hA] at k1 k4 ca' ia' ⊢
      clear hA
      obtain ⟨B, hB⟩ : ∃ z0 : Int, z0 = ((b : Nat) : Int) := ⟨_, rfl⟩
      rw [← hB] at k2 k3 cb' ib' ⊢
      clear hB
      go_enter Tryd.func5, Tryd.ntmps5
      go_wp2_with (first | (go_at_call 14; (first | (refine (awake_any _ hT).mono ?_) | (refine (awake_any _ (cell_keeps (grow_drewN _ _) hT)).mono ?_)); rintro _ _ ⟨rfl, hbel⟩) | (go_at_call 22; first | (with_reducible (refine (k1 _).mono ?_); rintro _ _ ⟨rfl, _, rfl⟩) | (with_reducible (refine (k2 _).mono ?_); rintro _ _ ⟨rfl, _, rfl⟩)) | (go_at_call 15; first | (with_reducible (refine (k3 _).mono ?_); rintro _ _ ⟨rfl, _, rfl⟩) | (with_reducible (refine (k4 _).mono ?_); rintro _ _ ⟨rfl, _, rfl⟩)))
      all_goals first | (go_ret; refine ⟨rfl, ?_⟩; (repeat (refine below_drewN ?_ _)); first | exact hbel | exact grow_from hbel | exact Below.refl _ _) | (exfalso; simp_all; done) | (exfalso; simp_all; omega)
  · rw [h1] at k3
    clear s1 h1 ca cb ia ib ha hb k5 k6 k7 k8 k4
    obtain ⟨S, hS⟩ : ∃ z0 : Int, z0 = ((fadd a a : Nat) : Int) := ⟨_, rfl⟩
    rw [← hS] at k1 k3
    clear hS
    obtain ⟨A, hA⟩ : ∃ z0 : Int, z0 = ((a : Nat) : Int) := ⟨_, rfl⟩
    rw [← hA] at k1 ca' ia' ⊢
    clear hA
    obtain ⟨B, hB⟩ : ∃ z0 : Int, z0 = ((b : Nat) : Int) := ⟨_, rfl⟩
    rw [← hB] at k2 k3 cb' ib' ⊢
    clear hB
    go_enter Tryd.func5, Tryd.ntmps5
    go_wp2_with (first | (go_at_call 14; (first | (refine (awake_any _ hT).mono ?_) | (refine (awake_any _ (cell_keeps (grow_drewN _ _) hT)).mono ?_)); rintro _ _ ⟨rfl, hbel⟩) | (go_at_call 22; first | (with_reducible (refine (k1 _).mono ?_); rintro _ _ ⟨rfl, _, rfl⟩) | (with_reducible (refine (k2 _).mono ?_); rintro _ _ ⟨rfl, _, rfl⟩)) | (go_at_call 15; first | (with_reducible (refine (k3 _).mono ?_); rintro _ _ ⟨rfl, _, rfl⟩)))
    all_goals first | (go_ret; refine ⟨rfl, ?_⟩; (repeat (refine below_drewN ?_ _)); first | exact hbel | exact grow_from hbel | exact Below.refl _ _) | (exfalso; simp_all; done) | (exfalso; simp_all; omega)

-- LIFT
set_option maxRecDepth 100000 in
theorem contract (H : Type) (enc : TypeId × Value → H) (W : World) (base : Nat) (args : Array Value) (ds gs : List (DataW H)) (before : List MemPlace)
    (hval : ∀ (j : Nat) t v, Tryd.f5.params[j]? = some t → args[j]? = some v → Value.okWide Tryd.prog W .any base t v)
    (hW : DataW.Whole enc Tryd.prog Tryd.f5.params.toList Rows.numSterbenzSpec.vars false W args.toList ds gs before) (hL : laidMetH Tryd.prog Rows.numSterbenzRow.laid W) :
    Calls Tryd.prog 5 args W fun e W' => ∃ v, e = .returned v ∧ Rows.numSterbenzSpec.post enc Tryd.prog Tryd.f5 false true false false W args v W' := by
  have hT := cell_of (show laidMetH Tryd.prog laidOf W from hL)
  clear hL
  have hts : Tryd.f5.params.toList.all (fun t => Tryd.prog.readableRec t && decide (t < Tryd.prog.types.size)) = true := by kernel_rfl
  have hW' := hW
  obtain ⟨p, q, hA0, hV, rfl, hfz, hnd⟩ := hW
  have hA : DataW.TrodAll enc Tryd.prog W 0 (fun _ => true) true Tryd.f5.params.toList args.toList ds p := hA0
  rw [Tryd.params5] at hA hval
  obtain ⟨v0, vs0, d0, ds0, p0, q0, hargs, rfl, rfl, h0, r0⟩ := trodAll_cons hA
  obtain ⟨v1, vs1, d1, ds1, p1, q1, rfl, rfl, rfl, h1, r1⟩ := trodAll_cons r0
  obtain ⟨rfl, rfl, rfl⟩ := trodAll_nil r1
  obtain rfl : args = #[v0, v1] := by cases args; simp_all
  obtain ⟨rfl, rfl⟩ := trodVars_none hV
  have hfn : Rows.numSterbenzSpec.fn H ([d0, d1] ++ []) = { results := [.lit (.bool true)], args := [d0, d1] } := rfl
  have hfin := fun W' (hbel : Below W.heap.size W W') => law_post (f := Tryd.f5) (s := Rows.numSterbenzSpec) 4 Tryd.laid hts rfl Tryd.underlying4 rfl hfn hW' hbel
  clear hA0 hts hfn
  obtain ⟨a0, rfl, rfl, rfl, w0⟩ := open_int Tryd.underlying22 (hval 0 22 v0 rfl rfl) h0
  obtain ⟨a1, rfl, rfl, rfl, w1⟩ := open_int Tryd.underlying22 (hval 1 22 v1 rfl rfl) h1
  have x0 : 0 ≤ a0 ∧ a0 ≤ 18446744073709551615 := by simpa [Lit.wf, IntKind.min, IntKind.max, IntKind.signed, IntKind.bits] using w0
  obtain ⟨n0, rfl⟩ := Int.eq_ofNat_of_zero_le x0.1
  have x1 : 0 ≤ a1 ∧ a1 ≤ 18446744073709551615 := by simpa [Lit.wf, IntKind.min, IntKind.max, IntKind.signed, IntKind.bits] using w1
  obtain ⟨n1, rfl⟩ := Int.eq_ofNat_of_zero_le x1.1
  exact (walk n0 n1 W hT (by unfold signB; omega) (by unfold signB; omega)).mono fun e W' ⟨he, hg⟩ => ⟨_, he, hfin W' hg⟩

theorem reads (os : Os) {H : Type} (enc : TypeId × Value → H) : ∃ places, DataW.whole enc Tryd.prog ((laidWorld os).forCall (fun _ _ => 0) ⟨#[], #[.int .u64 0, .int .u64 0], []⟩).memory Tryd.f5.params.toList Rows.numSterbenzSpec.vars false #[.int .u64 0, .int .u64 0].toList 8 = some ([.lit (.int .u64 0), .lit (.int .u64 0)], [], places) :=
  ⟨[], by kernel_rfl⟩
theorem laid_met (os : Os) : laidMet Tryd.prog Rows.numSterbenzRow.laid ((laidWorld os).forCall (fun _ _ => 0) ⟨#[], #[.int .u64 0, .int .u64 0], []⟩).memory := laid_here os #[.int .u64 0, .int .u64 0]

set_option maxRecDepth 100000 in
theorem lifted (os : Os) (started : os.Started) (H : Type) (enc : TypeId × Value → H) (F : Stop.Interp) :
    ReturnsInHanded {} Tryd.checked os 5 .any ((OpenSpec.ofChange Rows.numSterbenzSpec).preRow enc Tryd.prog Tryd.f5 Rows.numSterbenzRow.domain false Rows.numSterbenzRow.laid) (((OpenSpec.ofChange Rows.numSterbenzSpec).at F).post enc Tryd.prog Tryd.f5 false true false false) := by
  obtain ⟨places, hx⟩ := reads os enc
  refine returnsInHanded_of_row (C := Tryd.checked) (s := OpenSpec.ofChange Rows.numSterbenzSpec) Tryd.own started (by kernel_rfl) Tryd.func5
    (witness_row_atRef (enc := enc) (C := Tryd.checked) false (laidWorld os) #[.int .u64 0, .int .u64 0] rfl (by kernel_rfl) (by kernel_rfl) (by kernel_rfl)
      (OpenSpec.preRow_of_cond 8 hx (by kernel_rfl) (fun k hk => by cases hk) (by kernel_rfl) (laid_met os))) ?_
  intro W base args ds gs before hval hW _ _ _ hL _ _
  exact contract H enc W base args ds gs before hval hW hL

theorem said : Rows.NumSterbenzSaid :=
  OpenClaim.holds_of_cond 5 Tryd.f5 rfl rfl rfl rfl rfl rfl rfl ⟨rfl, rfl, rfl, rfl, rfl⟩ rfl rfl rfl rfl rfl (by kernel_rfl) Tryd.func5 (by kernel_rfl)
    (of_decide_eq_true (by kernel_rfl)) (by unfold Func.isWrapper; first | (rw [if_pos (by decide +kernel)]; kernel_rfl) | (rw [if_neg (by decide +kernel)]; exact ⟨rfl, rfl⟩))
    (fun os started H enc _ F => by rw [OpenClaim.pre_eq_preRow]; exact lifted os started H enc F)

theorem plain (f : FuncId) (fn : Func) (hf : Tryd.pinned.checked.prog.funcNamed "gaffer/gafferlaw01.NumSterbenz" = some f) (hfn : Tryd.pinned.checked.prog.funcs[f]? = some fn) :
    true = Tryd.pinned.checked.prog.looks [] ∧ ∀ (j : Nat) t, fn.params[j]? = some t → Tryd.pinned.checked.prog.wantsStandIn t = false := by
  obtain rfl : f = 5 := Option.some.inj ((show Tryd.prog.funcNamed "gaffer/gafferlaw01.NumSterbenz" = some 5 by kernel_rfl).symm.trans hf) |>.symm
  obtain rfl : fn = Tryd.f5 := (Option.some.inj (Tryd.func5.symm.trans hfn)).symm
  refine ⟨by kernel_rfl, fun j t ht => ?_⟩
  rw [Tryd.params5] at ht
  have hm := Array.mem_of_getElem? ht
  simp only [List.mem_toArray, List.mem_cons, List.not_mem_nil, or_false] at hm
  rcases hm with rfl | rfl
  · exact (show Tryd.prog.wantsStandIn 22 = false by kernel_rfl)
  · exact (show Tryd.prog.wantsStandIn 22 = false by kernel_rfl)

theorem proved : Rows.NumSterbenzCardSaid :=
  Claim7.holds_tied_plain_at .later [] _ _ _ _ said (fun _ h => by cases h) (by kernel_rfl) (fun _ h => by cases h) numSterbenz_row_tie rfl ⟨rfl, rfl⟩ (by kernel_rfl) rfl plain (by kernel_rfl)

end Go.Proofs.YthbdgdapchplgaaDoor.numSterbenz
