/- PackFaults: a reader that has a fault stands, answers nothings, and keeps the first one. Condition: the arguments are together of bulk at most 1048576. -/
import Derived.Test.YtefablceddbolaaAsks
import Derived.Test.YtefablceddbolaaAwake
import Derived.Test.YtefablceddbolaaOps
namespace Go.Proofs.Ytefablceddbolaa.packFaults
open Go.RowKit Go.WideShapes Go.ChangeShapes Go.ChangeAt
open Go.ChangeMaps (open_string shut_string)

set_option maxHeartbeats 4000000 in
theorem walk (b : ByteArray) (A1 A2 : Option Addr) (n1 c1 n2 c2 : Nat) (l1 l2 : List (Int × Int)) (w : World) (hb : b.size < 1048576) (h1 : Sl w w.heap.size 2 A1 n1 (opCell l1)) (h2 : Sl w w.heap.size 2 A2 n2 (opCell l2))
    (f1 : Fits l1) (f2 : Fits l2) (m1 : n1 < 1048576) (m2 : n2 < 1048576) :
    Calls Try.prog 7 #[.string b, .slice A1 n1 c1, .slice A2 n2 c2] w fun e w' => e = .returned (.bool true) ∧ Below w.heap.size w w' := by
  have H1 := Lib.hid h1
  have H2 := Lib.hid h2
  clear h1 h2
  go_enter Try.func7, Try.ntmps7
  go_wp2_with fail
  refine (read_any _ _).mono ?_
  rintro e w1 ⟨rfl, hR1, hb1, hs1⟩
  have HS := Lib.hid hs1
  clear hs1
  go_wp2_with fail
  refine (awake_any _).mono ?_
  rintro e w2 ⟨rfl, hb2⟩
  have hlt : w.heap.size < w1.heap.size := by have := HS.out; omega
  have hR2 := hR1.below hb2 hlt
  have hB2 : Below w.heap.size w w2 := hb1.trans (hb2.mono hb1.size)
  go_wp2
  go_loopw [8] (fun i wr => ∃ (k p : Nat) (f : Int), k ≤ n1 ∧ i = .int .i64 (k : Int) ∧ p ≤ b.size ∧ Rdr wr w.heap.size b p f ∧ Below w.heap.size w wr) (fun i _ => n1 - (intOf i).toNat)
  case atStart => exact ⟨0, 0, 0, Nat.zero_le _, rfl, Nat.zero_le _, hR2, hB2⟩
  case round =>
    obtain ⟨k, p, f, hk, rfl, hp, hRr, hBr⟩ := hrel
    by_cases hlt1 : k < n1
    · obtain ⟨bb, off, rfl, hbb, hc⟩ := H1.out (by omega)
      have q0 := (hBr.cell (p := ⟨bb, off + k * 2, none⟩) hbb).trans (hc (k * 2) (by omega))
      have q1 := (hBr.cell (p := ⟨bb, off + (k * 2 + 1), none⟩) hbb).trans (hc (k * 2 + 1) (by omega))
      rw [opCell0] at q0
      rw [opCell1, ← Nat.add_assoc] at q1
      clear hc
      have fm : -9223372036854775808 ≤ (l1[k]?.getD (0, 0)).2 ∧ (l1[k]?.getD (0, 0)).2 ≤ 9223372036854775807 := by simpa using f1 k
      go_wp2_with fail
      refine (asks_any w.heap.size b p f _ _ wr hRr hp (by omega) fm).mono ?_
      rintro x w3 ⟨t, q, f', rfl, hR3, hq, hg3, _⟩
      go_wp2
      go_roundw
      case rel => exact ⟨k + 1, q, f', by omega, by go_num, hq, hR3, hBr.trans (below_of_only hg3 (Nat.le_refl _) hBr.size)⟩
      case measure => simp [intOf]; omega
    · by_cases hf : f = 0
      · subst hf
        go_wp2_with fail
        refine (fault_any w.heap.size b p 0 wr hRr).mono ?_
        rw [if_pos rfl]
        rintro x w3 ⟨rfl, n, rfl⟩
        go_wp2
        go_ret
        exact ⟨rfl, below_drewN hBr n⟩
      · have hfb : (f == 0) = false := by rw [beq_eq_false_iff_ne]; exact hf
        go_wp2_with fail
        refine (fault_any w.heap.size b p f wr hRr).mono ?_
        rw [if_neg hf]
        rintro x w3 ⟨rfl, n, rfl⟩
        go_wp2_with fail
        refine (at_any _ _ _ _ _ (hRr.drewN n)).mono ?_
        rintro x w4 ⟨rfl, rfl⟩
        go_wp2_with fail
        refine (left_any _ _ _ _ _ (hRr.drewN n) hp (by omega)).mono ?_
        rintro x w5 ⟨rfl, m, rfl⟩
        have hRd := (hRr.drewN n).drewN m
        have hBd : Below w.heap.size w (wr.drewN (n + m)) := below_drewN hBr (n + m)
        go_wp2
        go_loopw [13] (fun i wq => ∃ (j : Nat), j ≤ n2 ∧ i = .int .i64 (j : Int) ∧ Rdr wq w.heap.size b p f ∧ Below w.heap.size w wq) (fun i _ => n2 - (intOf i).toNat)
        case atStart => exact ⟨0, Nat.zero_le _, rfl, hRd, hBd⟩
        case round =>
          obtain ⟨j, hj, rfl, hRq, hBq⟩ := hrel
          clear hRd hBd hRr hBr
          by_cases hlt2 : j < n2
          · obtain ⟨bb, off, rfl, hbb, hc⟩ := H2.out (by omega)
            have fm : -9223372036854775808 ≤ (l2[j]?.getD (0, 0)).2 ∧ (l2[j]?.getD (0, 0)).2 ≤ 9223372036854775807 := by simpa using f2 j
            go_wp2_with fail
            refine (end_any _ _ _ _ _ hRq).mono ?_
            rw [show endE b p f = f from if_neg (by simp [hf]), show endP b p f = p from if_neg (by simp [hf])]
            rintro x w6 ⟨rfl, n', rfl⟩
            have q0 := (hBq.cell (p := ⟨bb, off + j * 2, none⟩) hbb).trans (hc (j * 2) (by omega))
            have q1 := (hBq.cell (p := ⟨bb, off + (j * 2 + 1), none⟩) hbb).trans (hc (j * 2 + 1) (by omega))
            rw [opCell0] at q0
            rw [opCell1, ← Nat.add_assoc] at q1
            clear hc
            go_wp2_with fail
            refine (asks_any w.heap.size b p f _ _ _ (hRq.drewN n') hp (by omega) fm).mono ?_
            rintro x w7 ⟨t, q, f', rfl, hR7, hq, hg7, hsame⟩
            obtain ⟨rfl, rfl, rfl⟩ := hsame hf
            go_wp2
            go_roundw
            case rel => exact ⟨j + 1, by omega, by go_num, hR7, (below_drewN hBq n').trans (below_of_only hg7 (Nat.le_refl _) hBq.size)⟩
            case measure => simp [intOf]; omega
          · go_wp2_with fail
            refine (fault_any w.heap.size b p f _ hRq).mono ?_
            rw [if_neg hf]
            rintro x w6 ⟨rfl, n', rfl⟩
            go_wp2_with fail
            refine (at_any _ _ _ _ _ (hRq.drewN n')).mono ?_
            rintro x w7 ⟨rfl, rfl⟩
            go_wp2_with fail
            refine (left_any _ _ _ _ _ (hRq.drewN n') hp (by omega)).mono ?_
            rintro x w8 ⟨rfl, m', rfl⟩
            have teq : ((p : Int) + ((b.size - p : Nat) : Int) == (b.size : Int)) = true := by rw [beq_iff_eq]; omega
            go_wp2
            go_ret
            exact ⟨rfl, below_drewN hBq (n' + m')⟩

-- LIFT
set_option maxRecDepth 100000 in
theorem contract (H : Type) (enc : TypeId × Value → H) (W : World) (base : Nat) (args : Array Value) (ds gs : List (DataW H)) (before : List MemPlace)
    (hval : ∀ (j : Nat) t v, Try.f7.params[j]? = some t → args[j]? = some v → Value.okWide Try.prog W .any base t v)
    (hW : DataW.Whole enc Try.prog Try.f7.params.toList Rows.packFaultsSpec.vars false W args.toList ds gs before) (hk : Rows.uptoSmall H (ds ++ gs) = true) :
    Calls Try.prog 7 args W fun e W' => ∃ v, e = .returned v ∧ Rows.packFaultsSpec.post enc Try.prog Try.f7 false true false false W args v W' := by
  have hts : Try.f7.params.toList.all (fun t => Try.prog.readableRec t && decide (t < Try.prog.types.size)) = true := by kernel_rfl
  have hW' := hW
  obtain ⟨p, q, hA0, hV, rfl, hfz, hnd⟩ := hW
  have hA : DataW.TrodAll enc Try.prog W 0 (fun _ => true) true Try.f7.params.toList args.toList ds p := hA0
  rw [Try.params7] at hA hval
  obtain ⟨v0, vs0, d0, ds0, p0, q0, hargs, rfl, rfl, h0, r0⟩ := trodAll_cons hA
  obtain ⟨v1, vs1, d1, ds1, p1, q1, rfl, rfl, rfl, h1, r1⟩ := trodAll_cons r0
  obtain ⟨v2, vs2, d2, ds2, p2, q2, rfl, rfl, rfl, h2, r2⟩ := trodAll_cons r1
  obtain ⟨rfl, rfl, rfl⟩ := trodAll_nil r2
  obtain rfl : args = #[v0, v1, v2] := by cases args; simp_all
  obtain ⟨rfl, rfl⟩ := trodVars_none hV
  have hfn : Rows.packFaultsSpec.fn H ([d0, d1, d2] ++ []) = { results := [.lit (.bool true)], args := [d0, d1, d2] } := rfl
  have hfin := fun W' (hbel : Below W.heap.size W W') => law_post (f := Try.f7) (s := Rows.packFaultsSpec) 4 Try.laid hts rfl Try.underlying4 rfl hfn hW' hbel
  clear hA0 hts hfn
  obtain ⟨s0, rfl, rfl, rfl, w0⟩ := open_string Try.underlying9 (hval 0 9 v0 rfl rfl) h0
  simp only [List.append_nil] at hk
  have b0 : s0.size < 1048576 := bulk_string (bulk_mem hk _ (by simp))
  obtain ⟨A1, n1, c1, l1, rfl, sl1, fit1, len1, m1⟩ := open_ops Try.underlying48 Try.underlying51 (by kernel_rfl) rfl rfl (by kernel_rfl) (by kernel_rfl) Try.underlying3 Try.underlying3 (hval 1 48 v1 rfl rfl) h1 (bulk_mem hk _ (by simp))
  obtain ⟨A2, n2, c2, l2, rfl, sl2, fit2, len2, m2⟩ := open_ops Try.underlying48 Try.underlying51 (by kernel_rfl) rfl rfl (by kernel_rfl) (by kernel_rfl) Try.underlying3 Try.underlying3 (hval 2 48 v2 rfl rfl) h2 (bulk_mem hk _ (by simp))
  exact (walk s0 A1 A2 n1 c1 n2 c2 l1 l2 W b0 sl1 sl2 fit1 fit2 m1 m2).mono fun e W' ⟨he, hg⟩ => ⟨_, he, hfin W' hg⟩

set_option maxRecDepth 100000 in
theorem lifted (os : Os) (started : os.Started) (H : Type) (enc : TypeId × Value → H) (F : Stop.Interp) :
    ReturnsInHanded {} Try.checked os 7 .any ((Rows.OpenSpec.upto Rows.packFaultsSpec).pre6 enc Try.prog Try.f7 Rows.packFaultsUptoRow.domain false) (((Rows.OpenSpec.upto Rows.packFaultsSpec).at F).post enc Try.prog Try.f7 false true false false) := by
  refine returnsInHanded_of_cond (C := Try.checked) (s := Rows.OpenSpec.upto Rows.packFaultsSpec) (k := Rows.uptoSmall) rfl Try.own started (by kernel_rfl) Try.func7
    (OpenSpec.witness (enc := enc) (C := Try.checked) (s := Rows.OpenSpec.upto Rows.packFaultsSpec) (k := Rows.uptoSmall) rfl false ⟨#[], #[.string .empty, .slice none 0 0, .slice none 0 0], []⟩ 8 (by kernel_rfl) (by kernel_rfl) (by kernel_rfl)
      (x := ([.lit (.string []), .nil, .nil], [], [])) (by kernel_rfl) rfl (by kernel_rfl)) ?_
  intro W base args ds gs before hval hW _ hk _
  exact contract H enc W base args ds gs before hval hW hk

theorem proved : Rows.PackFaultsUptoSaid :=
  OpenClaim.holds_of_cond 7 Try.f7 rfl rfl rfl rfl rfl rfl rfl ⟨rfl, rfl, rfl, rfl, rfl⟩ rfl rfl rfl rfl rfl (by kernel_rfl) Try.func7 (by kernel_rfl)
    (of_decide_eq_true (by kernel_rfl)) (by unfold Func.isWrapper; first | (rw [if_pos (by decide +kernel)]; kernel_rfl) | (rw [if_neg (by decide +kernel)]; exact ⟨rfl, rfl⟩))
    (fun os started H enc _ F => lifted os started H enc F)

end Go.Proofs.Ytefablceddbolaa.packFaults
