/- PackBack: whatever is laid is read, by the like calls, as it was; and cut short anywhere it is not. Condition: the arguments are together of bulk at most 1048576. -/
import Derived.Test.YtefablceddbolaaBackPlain
import Derived.Test.YtefablceddbolaaReadsAll
import Derived.Test.YtefablceddbolaaAwake
namespace Go.Proofs.Ytefablceddbolaa.packBack
open Go.RowKit Go.WideShapes Go.ChangeShapes Go.ChangeAt
open Go.ChangeMaps (open_string shut_string)

theorem form_len {t : Th} (hn : t.n < 18446744073709551616) (hs : t.s.length ≤ 1048576) : (thForm t).length ≤ t.s.length + 10 := by
  unfold thForm
  split
  · have := vb_len10 t.n hn; omega
  · split
    · rw [bb_len]; omega
    · unfold tb
      have := vb_len10 t.s.length (by omega)
      rw [List.length_append]
      omega

theorem forms_len : ∀ (l : List Th), (∀ t ∈ l, t.n < 18446744073709551616 ∧ t.s.length ≤ 1048576) → (thForms l).length ≤ 3 * thSize l
  | [], _ => by simp [thForms]
  | t :: l, h => by
    have h1 := form_len (h t (List.mem_cons_self ..)).1 (h t (List.mem_cons_self ..)).2
    have h2 := forms_len l (fun x hx => h x (List.mem_cons_of_mem _ hx))
    have e : thForms (t :: l) = thForm t ++ thForms l := by simp [thForms]
    have e2 : thSize (t :: l) = t.s.length + 4 + thSize l := by simp [thSize]
    rw [e, List.length_append, e2]
    omega

theorem forms_take {l : List Th} {k : Nat} (h : k < l.length) : thForms (l.take (k + 1)) = thForms (l.take k) ++ thForm l[k] := by
  rw [List.take_succ_eq_append_getElem h]
  unfold thForms
  rw [List.map_append, List.flatten_append]
  simp

theorem forms_take_le (l : List Th) (k : Nat) : (thForms (l.take k)).length ≤ (thForms l).length := by
  have : thForms l = thForms (l.take k) ++ thForms (l.drop k) := by
    unfold thForms
    rw [← List.flatten_append, ← List.map_append, List.take_append_drop]
  rw [this, List.length_append]
  omega

set_option maxHeartbeats 4000000 in
theorem walk (A : Option Addr) (n c : Nat) (cut : Int) (l : List Th) (w : World) (hsl : Sl w w.heap.size 3 A n (thCell l)) (hl : l.length = n) (hn : n < 1048576) (hts : thSize l ≤ 1048576) (hbd : ∀ t ∈ l, t.n < 18446744073709551616)
    (hcut : -9223372036854775808 ≤ cut ∧ cut ≤ 9223372036854775807) :
    Calls Try.prog 5 #[.slice A n c, .int .i64 cut] w fun e w' => e = .returned (.bool true) ∧ Below w.heap.size w w' := by
  have hbd2 : ∀ t ∈ l, t.n < 18446744073709551616 ∧ t.s.length ≤ 1048576 := fun t ht => ⟨hbd t ht, Nat.le_trans (thSize_mem ht) hts⟩
  have hfl := forms_len l hbd2
  obtain ⟨L, hL⟩ : ∃ L, L = thForms l := ⟨_, rfl⟩
  have hLl : L.length ≤ 3145728 := by rw [hL]; omega
  have hall : rdAll (str L) l (0, 0, true) = (L.length, 0, true) := rdAll_laid l L [] (by rw [hL]; rfl) hbd2
  have hcutl : ∀ k, k < L.length → (rdAll (str (L.take k)) l (0, 0, true)).2.1 = 20 := fun k hk => by
    have h := rdAll_cut l [] k true (Nat.zero_le _) (by rw [List.nil_append, ← hL]; exact hk) hbd2
    rw [List.nil_append, ← hL] at h
    exact h
  have HSL := Lib.hid hsl
  have HL := Lib.hid hl
  have HLL := Lib.hid hL
  have HALL := Lib.hid hall
  have HCUT := Lib.hid hcutl
  clear hsl hL hall hcutl hfl hbd
  obtain ⟨i0, hi, hz0, hz1, hz2⟩ := info_parts Try.info5
  go_enter Try.func5, Try.ntmps5
  go_wp2_with fail
  refine (awake_any _).mono ?_
  rintro e w1 ⟨rfl, hb1⟩
  go_wp2
  have hb1' : Below w.heap.size w (w1.alloc (.cells #[] 5)) := hb1.alloc hb1.size _
  go_loopw [5, 6] (fun bv i wr => ∃ k : Nat, k ≤ n ∧ i = .int .i64 (k : Int) ∧ wr.ownsRow w.heap.size 5 1 bv (thForms (l.take k)).length ((thForms (l.take k)).map B) ∧ Below w.heap.size w wr) (fun _ i _ => n - (intOf i).toNat)
  case atStart => exact ⟨0, Nat.zero_le _, rfl, World.ownsRow_lit w1 #[] 0 hb1.size (by decide) rfl, hb1'⟩
  case round =>
    obtain ⟨k, hk, rfl, hown, hBr⟩ := hrel
    have hz := hBr.size
    by_cases hlt : k < n
    · obtain ⟨blk, off, rfl, hbb, hc⟩ := HSL.out (by omega)
      have hkl : k < l.length := by have := HL.out; omega
      have q0 := (hBr.cell (p := ⟨blk, off + k * 3, none⟩) hbb).trans (hc (k * 3) (by omega))
      have q1 := (hBr.cell (p := ⟨blk, off + (k * 3 + 1), none⟩) hbb).trans (hc (k * 3 + 1) (by omega))
      have q2 := (hBr.cell (p := ⟨blk, off + (k * 3 + 2), none⟩) hbb).trans (hc (k * 3 + 2) (by omega))
      rw [thCell0] at q0
      rw [thCell1, ← Nat.add_assoc] at q1
      rw [thCell2, ← Nat.add_assoc] at q2
      obtain ⟨t, ht⟩ : ∃ t, t = l.getD k default := ⟨_, rfl⟩
      rw [← ht] at q0 q1 q2
      have htk : l[k] = t := by rw [ht]; simp [hkl]
      have hm : t ∈ l := by rw [← htk]; exact List.getElem_mem hkl
      have hnext : thForms (l.take (k + 1)) = thForms (l.take k) ++ thForm t := by rw [forms_take hkl, htk]
      have hroom : (thForms (l.take k)).length + (thForm t).length ≤ 3145728 := by
        rw [← List.length_append, ← hnext]
        have h1 := forms_take_le l (k + 1)
        rw [← HLL.out] at h1
        omega
      have htn := (hbd2 t hm).1
      have hts1 := (hbd2 t hm).2
      have HN := Lib.hid hnext
      clear hc ht htk hnext
      by_cases k1 : t.k = 1
      · rw [k1] at q0
        have hf : thForm t = vb t.n := by unfold thForm; rw [if_pos k1]
        clear k1
        have HF := Lib.hid hf
        rw [hf] at hroom
        clear hf
        go_wp2_with fail
        refine (Num_any t.n wr htn).mono ?_
        rintro e w2 ⟨rfl, hb2⟩
        have ho2 := own_kept hown hb2
        have hz2' := Nat.le_trans hz hb2.size
        go_wp2_with (at_builtin; refine wpList_append_str rfl (.tmp 33) (.tmp 39) 30 9 rfl w.heap.size 5 i0 Try.underlying30 Try.underlying9 hi hz0 hz1 hz2 _ _ _ rfl ho2 (vb t.n) rfl (by omega) hz2' ?_; intro v' w3 ho3 hb3 hg3)
        go_roundw
        case rel =>
          refine ⟨k + 1, by omega, by go_num, ?_, (hBr.trans (hb2.mono hz)).trans hb3⟩
          rw [HN.out, HF.out, List.length_append]
          exact ho3
        case measure => simp [intOf]; omega
      · by_cases k2 : t.k = 2
        · rw [k2] at q0
          have hf : thForm t = bb t.n := by unfold thForm; rw [if_neg k1, if_pos k2]
          clear k1 k2
          have HF := Lib.hid hf
          rw [hf] at hroom
          clear hf
          go_wp2_with fail
          refine (Bits_any t.n wr htn).mono ?_
          rintro e w2 ⟨rfl, hb2⟩
          have ho2 := own_kept hown hb2
          have hz2' := Nat.le_trans hz hb2.size
          go_wp2_with (at_builtin; refine wpList_append_str rfl (.tmp 43) (.tmp 49) 30 9 rfl w.heap.size 5 i0 Try.underlying30 Try.underlying9 hi hz0 hz1 hz2 _ _ _ rfl ho2 (bb t.n) rfl (by omega) hz2' ?_; intro v' w3 ho3 hb3 hg3)
          go_roundw
          case rel =>
            refine ⟨k + 1, by omega, by go_num, ?_, (hBr.trans (hb2.mono hz)).trans hb3⟩
            rw [HN.out, HF.out, List.length_append]
            exact ho3
          case measure => simp [intOf]; omega
        · have t1 : (t.k == 1) = false := by rw [beq_eq_false_iff_ne]; exact k1
          have t2 : (t.k == 2) = false := by rw [beq_eq_false_iff_ne]; exact k2
          have hf : thForm t = tb t.s := by unfold thForm; rw [if_neg k1, if_neg k2]
          clear k1 k2
          have hss : (str t.s).size < 4611686018427387904 := by rw [str_size]; omega
          have HF := Lib.hid hf
          rw [hf] at hroom
          clear hf
          go_wp2_with fail
          refine (Text_any (str t.s) wr hss).mono ?_
          rintro e w2 ⟨rfl, hb2⟩
          have ho2 := own_kept hown hb2
          have hz2' := Nat.le_trans hz hb2.size
          go_wp2_with (at_builtin; refine wpList_append_str rfl (.tmp 23) (.tmp 29) 30 9 rfl w.heap.size 5 i0 Try.underlying30 Try.underlying9 hi hz0 hz1 hz2 _ _ _ rfl ho2 (tb t.s) rfl (by omega) hz2' ?_; intro v' w3 ho3 hb3 hg3)
          go_roundw
          case rel =>
            refine ⟨k + 1, by omega, by go_num, ?_, (hBr.trans (hb2.mono hz)).trans hb3⟩
            rw [HN.out, HF.out, List.length_append]
            exact ho3
          case measure => simp [intOf]; omega
    · have hkn : k = n := by omega
      have hel : thForms (l.take k) = L := by rw [HLL.out, List.take_of_length_le (by have := HL.out; omega)]
      rw [hel] at hown
      have hown2 := hown
      clear hel
      have hcv := conv_own hown2
      clear hown hkn
      have hbs : (str L).size = L.length := str_size L
      have hslr := (HSL.out.below hBr).more hz
      have HSR := Lib.hid hslr
      have HCV := Lib.hid hcv
      have hend : endE (str L) L.length 0 = 0 := by unfold endE; rw [if_neg (by rw [hbs]; omega)]
      have HE := Lib.hid hend
      clear hslr hcv hend
      rcases own_shape hown2 with ⟨rfl, h0⟩ | ⟨g, cap, rfl, hcap⟩
      · have hcv := HCV.out
        have t0 : ¬ cut < 0 → (0 : Int) ≤ cut := by omega
        go_wp2_with fail
        refine (reads_any (str L) A n c l wr (by rw [hbs]; omega) HSR.out HL.out hn hts).mono ?_
        rw [HALL.out, HE.out]
        rintro e w2 ⟨rfl, hb2⟩
        by_cases hc : cut < 0
        · go_wp2
          go_ret
          exact ⟨rfl, hBr.trans (hb2.mono hz)⟩
        · go_wp2
          go_ret
          exact ⟨rfl, hBr.trans (hb2.mono hz)⟩
      · have hcv := HCV.out
        go_wp2_with fail
        refine (reads_any (str L) A n c l wr (by rw [hbs]; omega) HSR.out HL.out hn hts).mono ?_
        rw [HALL.out, HE.out]
        rintro e w2 ⟨rfl, hb2⟩
        by_cases hc : cut < 0
        · go_wp2
          go_ret
          exact ⟨rfl, hBr.trans (hb2.mono hz)⟩
        · by_cases hc2 : (L.length : Int) ≤ cut
          · go_wp2
            go_ret
            exact ⟨rfl, hBr.trans (hb2.mono hz)⟩
          · obtain ⟨k2, rfl⟩ := Int.eq_ofNat_of_zero_le (by omega : 0 ≤ cut)
            have ho3 := own_kept hown2 hb2
            have hct := run_convert_take (P := Try.prog) (src := 30) (dst := 9) Try.underlying30 Try.underlying5 Try.underlying9 ho3 (show k2 ≤ L.length by omega)
            have hts2 : (str (L.take k2)).size ≤ 3145728 := by rw [str_size, List.length_take]; omega
            have hsl2 := Lib.hid ((HSR.out.below hb2).more hb2.size)
            have he20 := Lib.hid (HCUT.out k2 (by omega))
            clear hcv
            go_wp2_with fail
            refine (reads_any (str (L.take k2)) A n c l w2 (by omega) hsl2.out HL.out hn hts).mono ?_
            rw [he20.out, show endE (str (L.take k2)) (rdAll (str (L.take k2)) l (0, 0, true)).1 20 = 20 from by unfold endE; rw [if_neg (by simp)]]
            rintro e w3 ⟨rfl, hb3⟩
            go_wp2
            go_ret
            exact ⟨rfl, (hBr.trans (hb2.mono hz)).trans (hb3.mono (Nat.le_trans hz hb2.size))⟩

-- LIFT
set_option maxRecDepth 100000 in
theorem contract (H : Type) (enc : TypeId × Value → H) (W : World) (base : Nat) (args : Array Value) (ds gs : List (DataW H)) (before : List MemPlace)
    (hval : ∀ (j : Nat) t v, Try.f5.params[j]? = some t → args[j]? = some v → Value.okWide Try.prog W .any base t v)
    (hW : DataW.Whole enc Try.prog Try.f5.params.toList Rows.packBackSpec.vars false W args.toList ds gs before) (hk : Rows.uptoSmall H (ds ++ gs) = true) :
    Calls Try.prog 5 args W fun e W' => ∃ v, e = .returned v ∧ Rows.packBackSpec.post enc Try.prog Try.f5 false true false false W args v W' := by
  have hts : Try.f5.params.toList.all (fun t => Try.prog.readableRec t && decide (t < Try.prog.types.size)) = true := by kernel_rfl
  have hW' := hW
  obtain ⟨p, q, hA0, hV, rfl, hfz, hnd⟩ := hW
  have hA : DataW.TrodAll enc Try.prog W 0 (fun _ => true) true Try.f5.params.toList args.toList ds p := hA0
  rw [Try.params5] at hA hval
  obtain ⟨v0, vs0, d0, ds0, p0, q0, hargs, rfl, rfl, h0, r0⟩ := trodAll_cons hA
  obtain ⟨v1, vs1, d1, ds1, p1, q1, rfl, rfl, rfl, h1, r1⟩ := trodAll_cons r0
  obtain ⟨rfl, rfl, rfl⟩ := trodAll_nil r1
  obtain rfl : args = #[v0, v1] := by cases args; simp_all
  obtain ⟨rfl, rfl⟩ := trodVars_none hV
  have hfn : Rows.packBackSpec.fn H ([d0, d1] ++ []) = { results := [.lit (.bool true)], args := [d0, d1] } := rfl
  have hfin := fun W' (hbel : Below W.heap.size W W') => law_post (f := Try.f5) (s := Rows.packBackSpec) 4 Try.laid hts rfl Try.underlying4 rfl hfn hW' hbel
  clear hA0 hts hfn
  obtain ⟨a1, rfl, rfl, rfl, w1⟩ := open_int Try.underlying3 (hval 1 3 v1 rfl rfl) h1
  simp only [List.append_nil] at hk
  obtain ⟨A0, n0, c0, l0, rfl, sl0, len0, m0, sz0, bd0⟩ := open_things (hval 0 29 v0 rfl rfl) h0 (bulk_mem hk _ (by simp))
  have x1 : -9223372036854775808 ≤ a1 ∧ a1 ≤ 9223372036854775807 := by simpa [Lit.wf, IntKind.min, IntKind.max, IntKind.signed, IntKind.bits] using w1
  exact (walk A0 n0 c0 a1 l0 W sl0 len0 m0 sz0 bd0 x1).mono fun e W' ⟨he, hg⟩ => ⟨_, he, hfin W' hg⟩

set_option maxRecDepth 100000 in
theorem lifted (os : Os) (started : os.Started) (H : Type) (enc : TypeId × Value → H) (F : Stop.Interp) :
    ReturnsInHanded {} Try.checked os 5 .any ((Rows.OpenSpec.upto Rows.packBackSpec).pre6 enc Try.prog Try.f5 Rows.packBackUptoRow.domain false) (((Rows.OpenSpec.upto Rows.packBackSpec).at F).post enc Try.prog Try.f5 false true false false) := by
  refine returnsInHanded_of_cond (C := Try.checked) (s := Rows.OpenSpec.upto Rows.packBackSpec) (k := Rows.uptoSmall) rfl Try.own started (by kernel_rfl) Try.func5
    (OpenSpec.witness (enc := enc) (C := Try.checked) (s := Rows.OpenSpec.upto Rows.packBackSpec) (k := Rows.uptoSmall) rfl false ⟨#[], #[.slice none 0 0, .int .i64 0], []⟩ 8 (by kernel_rfl) (by kernel_rfl) (by kernel_rfl)
      (x := ([.nil, .lit (.int .i64 0)], [], [])) (by kernel_rfl) rfl (by kernel_rfl)) ?_
  intro W base args ds gs before hval hW _ hk _
  exact contract H enc W base args ds gs before hval hW hk

theorem proved : Rows.PackBackUptoSaid :=
  OpenClaim.holds_of_cond 5 Try.f5 rfl rfl rfl rfl rfl rfl rfl ⟨rfl, rfl, rfl, rfl, rfl⟩ rfl rfl rfl rfl rfl (by kernel_rfl) Try.func5 (by kernel_rfl)
    (of_decide_eq_true (by kernel_rfl)) (by unfold Func.isWrapper; first | (rw [if_pos (by decide +kernel)]; kernel_rfl) | (rw [if_neg (by decide +kernel)]; exact ⟨rfl, rfl⟩))
    (fun os started H enc _ F => lifted os started H enc F)

end Go.Proofs.Ytefablceddbolaa.packBack
