/- PackShortest: a number's form has one byte for each seven bits, a greater number's is never shorter, all its bytes but the last are 128 and more. Condition: the arguments are together of bulk at most 1048576. -/
import Derived.Test.YtefablceddbolaaAwake
import Derived.Test.YtefablceddbolaaClose
namespace Go.Proofs.Ytefablceddbolaa.packShortest
open Go.RowKit Go.WideShapes Go.ChangeShapes Go.ChangeAt
open Go.ChangeMaps (open_string shut_string)

theorem run_index_bytes {P : Program} {T : TypeId} (w : World) (hT : P.underlying T = some .string) (b : ByteArray) (j : Nat) (hj : j < b.size) :
    (Instr.index T (.string b) (.int .i64 (j : Int))).run P w = .ok (.int .u8 ((b[j]'hj).toNat : Int)) w := by
  go_simp

set_option maxHeartbeats 2000000 in
theorem walk (n m : Nat) (w : World) (hn : n < 18446744073709551616) (hm : m < 18446744073709551616) :
    Calls Try.prog 4 #[.int .u64 n, .int .u64 m] w fun e w' => e = .returned (.bool true) ∧ Below w.heap.size w w' := by
  obtain ⟨b, hb⟩ : ∃ b, b = str (vb n) := ⟨_, rfl⟩
  obtain ⟨c, hc⟩ : ∃ c, c = str (vb m) := ⟨_, rfl⟩
  have hbs : b.size = (vb n).length := by rw [hb, str_size]
  have hcs : c.size = (vb m).length := by rw [hc, str_size]
  have hn9 : n < 128 ^ (9 + 1) := Nat.lt_trans hn (by decide)
  have hcmp : n ≤ m → b.size ≤ c.size := fun h => by rw [hbs, hcs]; exact vb_mono 9 n m hn9 h
  have hlen : b.size = max 1 ((blen n + 6) / 7) := by rw [hbs]; exact vb_blen 9 n hn9
  have hhi : ∀ (k : Nat) (h : k < b.size), k + 1 < b.size → 128 ≤ (b[k]'h).toNat := fun k h h1 => by
    subst hb
    exact vb_high 9 n hn9 k (by rw [hbs] at h1; exact h1)
  have hlo : ∀ (k : Nat) (h : k < b.size), k + 1 = b.size → (b[k]'h).toNat < 128 := fun k h h1 => by
    subst hb
    have hk : k = (vb n).length - 1 := by rw [hbs] at h1; omega
    subst hk
    exact vb_low 9 n hn9 (by rw [hbs] at h; exact h)
  have hb64 : blen n ≤ 64 := blen_le 64 n hn
  have hbl : b.size ≤ 10 := by rw [hbs]; exact vb_len10 n hn
  have hcl : c.size ≤ 10 := by rw [hcs]; exact vb_len10 m hm
  have hbp : 0 < b.size := by rw [hbs]; exact vb_pos n
  have HB := Lib.hid hb
  have HC := Lib.hid hc
  have HL := Lib.hid hlen
  have HHI := Lib.hid hhi
  have HLO := Lib.hid hlo
  have HCMP := Lib.hid hcmp
  clear hb hc hlen hbs hcs hn9 hhi hlo hcmp
  go_enter Try.func4, Try.ntmps4
  go_wp2_with fail
  refine (Num_any n _ hn).mono ?_
  rintro e w1 ⟨rfl, hb1⟩
  rw [← HB.out]
  go_wp2_with fail
  refine (Num_any m _ hm).mono ?_
  rintro e w2 ⟨rfl, hb2⟩
  rw [← HC.out]
  go_wp2_with fail
  refine (awake_any _).mono ?_
  rintro e w3 ⟨rfl, hb3⟩
  have h3 : Below w.heap.size w w3 := (hb1.trans (hb2.mono hb1.size)).trans (hb3.mono (Nat.le_trans hb1.size hb2.size))
  have H3 := Lib.hid h3
  clear hb1 hb2 hb3 h3
  have t0 : (n : Int) ≤ m ∧ ¬ (c.size : Int) < b.size ∨ ¬ (n : Int) ≤ m := by
    by_cases h : n ≤ m
    · have := HCMP.out h
      exact .inl ⟨by omega, by omega⟩
    · exact .inr (by omega)
  have t3 : n ≤ m → decide (c.size < b.size) = false := fun h => by
    have := HCMP.out h
    rw [decide_eq_false_iff_not]
    omega
  by_cases t4 : n ≤ m
  all_goals
    first | (have t5 := t3 t4; clear t3) | clear t3
    rcases t0 with ⟨t1, t2⟩ | t1
    all_goals first | (exfalso; omega) | skip
    go_wp2
    go_loop [7, 8] (fun i x => ∃ k y : Nat, i = .int .i64 (k : Int) ∧ x = .int .u64 (y : Int) ∧ k ≤ 64 ∧ y ≤ n ∧ Hid (k + blen y = blen n)) (fun _ x => (intOf x).toNat)
    case atStart => exact ⟨0, n, rfl, rfl, by omega, Nat.le_refl _, (Nat.zero_add _ : _)⟩
    case round =>
      obtain ⟨k, y, rfl, rfl, hk, hy, hky⟩ := hrel
      by_cases hy0 : (0 : Int) < y
      · have hk1 : k + 1 ≤ 64 := by
          have h1 := hky.out
          rw [blen_pos (by omega)] at h1
          omega
        go_wp2
        go_round
        case rel => exact ⟨k + 1, y / 2, by go_num, by go_num, hk1, by omega, by have h1 := hky.out; rw [blen_pos (by omega)] at h1; show _ = _; omega⟩
        case measure => simp [intOf]; omega
      · have hkk : k = blen n := by
          have h1 := hky.out
          obtain rfl : y = 0 := by omega
          rw [blen_zero] at h1
          omega
        have HK := Lib.hid hkk
        clear hkk
        go_wp2
        go_loop [9] (fun i => ∃ j : Nat, i = .int .i64 (j : Int) ∧ j + 1 ≤ b.size) (fun i => 20 - (intOf i).toNat)
        case atStart => exact ⟨0, rfl, by omega⟩
        case round =>
          obtain ⟨j, rfl, hj⟩ := hrel
          by_cases hj1 : j + 1 < b.size
          · obtain ⟨x, hx, hix⟩ : ∃ x : Int, 128 ≤ x ∧ ∀ wx : World, (Instr.index 9 (.string b) (.int .i64 (j : Int))).run Try.prog wx = .ok (.int .u8 x) wx :=
              ⟨((b[j]'(by omega)).toNat : Int), by have := HHI.out j (by omega) hj1; omega, fun wx => run_index_bytes _ Try.underlying9 b j (by omega)⟩
            go_wp2
            go_round
            case rel => exact ⟨j + 1, by go_num, by omega⟩
            case measure => simp [intOf]; omega
          · have hjb : j = b.size - 1 := by omega
            subst hjb
            have hlen := HL.out
            have hkv := HK.out
            have hbz : (b.size : Int) = max 1 (((k : Int) + 6) / 7) := by omega
            have HBZ := Lib.hid hbz
            clear hlen hkv hbz
            obtain ⟨x, hx, hix⟩ : ∃ x : Int, x < 128 ∧ ∀ wx : World, (Instr.index 9 (.string b) (.int .i64 ((b.size : Int) - 1))).run Try.prog wx = .ok (.int .u8 x) wx :=
              ⟨((b[b.size - 1]'(by omega)).toNat : Int), by have := HLO.out (b.size - 1) (by omega) (by omega); omega, fun wx => by
                have h := run_index_bytes (P := Try.prog) wx Try.underlying9 b (b.size - 1) (by omega)
                rw [show (((b.size - 1 : Nat) : Int)) = (b.size : Int) - 1 from by omega] at h
                exact h⟩
            by_cases hmx : (1 : Int) < ((k : Int) + 6) / 7
            · have teq : ((b.size : Int) == ((k : Int) + 6) / 7) = true := by rw [beq_iff_eq]; have := HBZ.out; omega
              go_wp2
              go_ret
              exact ⟨congrArg (fun x => Ending.returned (Value.bool x)) (by first | rfl | (simp; done) | simpa using hx), H3.out⟩
            · have teq : ((b.size : Int) == 1) = true := by rw [beq_iff_eq]; have := HBZ.out; omega
              go_wp2
              go_ret
              exact ⟨congrArg (fun x => Ending.returned (Value.bool x)) (by first | rfl | (simp; done) | simpa using hx), H3.out⟩

-- LIFT
set_option maxRecDepth 100000 in
theorem contract (H : Type) (enc : TypeId × Value → H) (W : World) (base : Nat) (args : Array Value) (ds gs : List (DataW H)) (before : List MemPlace)
    (hval : ∀ (j : Nat) t v, Try.f4.params[j]? = some t → args[j]? = some v → Value.okWide Try.prog W .any base t v)
    (hW : DataW.Whole enc Try.prog Try.f4.params.toList Rows.packShortestSpec.vars false W args.toList ds gs before) (hk : Rows.uptoSmall H (ds ++ gs) = true) :
    Calls Try.prog 4 args W fun e W' => ∃ v, e = .returned v ∧ Rows.packShortestSpec.post enc Try.prog Try.f4 false true false false W args v W' := by
  have hts : Try.f4.params.toList.all (fun t => Try.prog.readableRec t && decide (t < Try.prog.types.size)) = true := by kernel_rfl
  have hW' := hW
  obtain ⟨p, q, hA0, hV, rfl, hfz, hnd⟩ := hW
  have hA : DataW.TrodAll enc Try.prog W 0 (fun _ => true) true Try.f4.params.toList args.toList ds p := hA0
  rw [Try.params4] at hA hval
  obtain ⟨v0, vs0, d0, ds0, p0, q0, hargs, rfl, rfl, h0, r0⟩ := trodAll_cons hA
  obtain ⟨v1, vs1, d1, ds1, p1, q1, rfl, rfl, rfl, h1, r1⟩ := trodAll_cons r0
  obtain ⟨rfl, rfl, rfl⟩ := trodAll_nil r1
  obtain rfl : args = #[v0, v1] := by cases args; simp_all
  obtain ⟨rfl, rfl⟩ := trodVars_none hV
  have hfn : Rows.packShortestSpec.fn H ([d0, d1] ++ []) = { results := [.lit (.bool true)], args := [d0, d1] } := rfl
  have hfin := fun W' (hbel : Below W.heap.size W W') => law_post (f := Try.f4) (s := Rows.packShortestSpec) 4 Try.laid hts rfl Try.underlying4 rfl hfn hW' hbel
  clear hA0 hts hfn
  obtain ⟨a0, rfl, rfl, rfl, w0⟩ := open_int Try.underlying22 (hval 0 22 v0 rfl rfl) h0
  obtain ⟨a1, rfl, rfl, rfl, w1⟩ := open_int Try.underlying22 (hval 1 22 v1 rfl rfl) h1
  simp only [List.append_nil] at hk
  have x0 : 0 ≤ a0 ∧ a0 ≤ 18446744073709551615 := by simpa [Lit.wf, IntKind.min, IntKind.max, IntKind.signed, IntKind.bits] using w0
  obtain ⟨n0, rfl⟩ := Int.eq_ofNat_of_zero_le x0.1
  have x1 : 0 ≤ a1 ∧ a1 ≤ 18446744073709551615 := by simpa [Lit.wf, IntKind.min, IntKind.max, IntKind.signed, IntKind.bits] using w1
  obtain ⟨n1, rfl⟩ := Int.eq_ofNat_of_zero_le x1.1
  exact (walk n0 n1 W (by omega) (by omega)).mono fun e W' ⟨he, hg⟩ => ⟨_, he, hfin W' hg⟩

set_option maxRecDepth 100000 in
theorem lifted (os : Os) (started : os.Started) (H : Type) (enc : TypeId × Value → H) (F : Stop.Interp) :
    ReturnsInHanded {} Try.checked os 4 .any ((Rows.OpenSpec.upto Rows.packShortestSpec).pre6 enc Try.prog Try.f4 Rows.packShortestUptoRow.domain false) (((Rows.OpenSpec.upto Rows.packShortestSpec).at F).post enc Try.prog Try.f4 false true false false) := by
  refine returnsInHanded_of_cond (C := Try.checked) (s := Rows.OpenSpec.upto Rows.packShortestSpec) (k := Rows.uptoSmall) rfl Try.own started (by kernel_rfl) Try.func4
    (OpenSpec.witness (enc := enc) (C := Try.checked) (s := Rows.OpenSpec.upto Rows.packShortestSpec) (k := Rows.uptoSmall) rfl false ⟨#[], #[.int .u64 0, .int .u64 0], []⟩ 8 (by kernel_rfl) (by kernel_rfl) (by kernel_rfl)
      (x := ([.lit (.int .u64 0), .lit (.int .u64 0)], [], [])) (by kernel_rfl) rfl (by kernel_rfl)) ?_
  intro W base args ds gs before hval hW _ hk _
  exact contract H enc W base args ds gs before hval hW hk

theorem proved : Rows.PackShortestUptoSaid :=
  OpenClaim.holds_of_cond 4 Try.f4 rfl rfl rfl rfl rfl rfl rfl ⟨rfl, rfl, rfl, rfl, rfl⟩ rfl rfl rfl rfl rfl (by kernel_rfl) Try.func4 (by kernel_rfl)
    (of_decide_eq_true (by kernel_rfl)) (by unfold Func.isWrapper; first | (rw [if_pos (by decide +kernel)]; kernel_rfl) | (rw [if_neg (by decide +kernel)]; exact ⟨rfl, rfl⟩))
    (fun os started H enc _ F => lifted os started H enc F)

end Go.Proofs.Ytefablceddbolaa.packShortest
