/- script.line (contract): a step's line. -/
import Derived.RangeFuncBox
import Derived.Test.YtdkencepmdfacaaGreatDoorTb
import Derived.Test.YtdkencepmdfacaaGreatDoorTf
import Derived.Test.YtdkencepmdfacaaGreatDoorGr11
import Derived.Test.YtdkencepmdfacaaGreatDoorPp
import Derived.Test.YtdkencepmdfacaaGreatDoorPu
set_option maxRecDepth 100000
namespace Go.Proofs.YtdkencepmdfacaaGreatDoor
open Go.RowKit Ieee

/-- what the laws' callees read besides: AllAt and the library's MaxLen -/
structure LibAt (w : World) : Prop where
  all : AllAt w
  max : MaxAt w
theorem LibAt.keep {w x : World} (h : LibAt w) (hb : Below w.heap.size w x) : LibAt x := ⟨h.all.keep hb, h.max.keep hb⟩
theorem RowS.keep {w w' : World} {base : Nat} {v : Value} {ws : List (List UInt8)} (h : RowS w base v ws) (hb : Below w.heap.size w w') : RowS w' base v ws := own_kept h hb
theorem RowS.ne {w : World} {base g : Nat} {v : Value} {l : List (List UInt8)} {t : TypeId} {c : Array Value} (h : RowS w base v l) (hc : Cells w g t c) (ht : t ≠ 9) : ∀ k, v.ownBlock = some k → k ≠ g := fun k hk e => by
  subst e
  obtain ⟨cur, hcur⟩ := own_block_type h hk
  unfold Cells at hc
  rw [hcur] at hc
  injection hc with hc
  injection hc with h1 h2
  exact ht h2.symm
/-- the first words of a step's line -/
def wordsTo (s : Stp) (i : Nat) : List (List UInt8) :=
  stWord s.kind.toNat :: ((if 0 < i ∧ stA s.kind = true then [Lib.itoa s.a] else []) ++ (if 1 < i ∧ stK s.kind = true then [Lib.itoa s.k] else []) ++ (if 2 < i ∧ stX s.kind = true then [Lib.itoa s.x] else []))
theorem wordsTo_zero (s : Stp) : wordsTo s 0 = [stWord s.kind.toNat] := by unfold wordsTo; simp
theorem wordsTo_one (s : Stp) : wordsTo s 1 = wordsTo s 0 ++ (if stA s.kind = true then [Lib.itoa s.a] else []) := by unfold wordsTo; simp
theorem wordsTo_two (s : Stp) : wordsTo s 2 = wordsTo s 1 ++ (if stK s.kind = true then [Lib.itoa s.k] else []) := by unfold wordsTo; simp
theorem wordsTo_three (s : Stp) : wordsTo s 3 = wordsTo s 2 ++ (if stX s.kind = true then [Lib.itoa s.x] else []) := by unfold wordsTo; simp
theorem wordsTo_all (s : Stp) : s.words = wordsTo s 3 ++ (if stT s.kind = true then [hexT s.text] else []) := by
  unfold wordsTo Stp.words Stp.nums
  cases stA s.kind <;> cases stK s.kind <;> cases stX s.kind <;> simp
theorem wordsTo_len (s : Stp) (i : Nat) : (wordsTo s i).length ≤ 4 := by
  unfold wordsTo
  simp only [List.length_cons, List.length_append]
  split <;> split <;> split <;> simp
theorem stWord_if (kd : Int) : (if 1 ≤ kd ∧ kd ≤ 12 then stWord kd.toNat else []) = stWord kd.toNat := by
  by_cases h : 1 ≤ kd ∧ kd ≤ 12
  · rw [if_pos h]
  · rw [if_neg h]
    by_cases h0 : kd ≤ 0
    · rw [show kd.toNat = 0 by omega]; rfl
    · obtain ⟨n, hn⟩ : ∃ n, kd.toNat = n + 13 := ⟨kd.toNat - 13, by omega⟩
      rw [hn]; rfl
theorem formV_is (kd : Int) : formV kd = .agg #[.string (strOf (stWord kd.toNat)), .bool (stA kd), .bool (stK kd), .bool (stX kd), .bool (stT kd)] := by unfold formV; rw [stWord_if]
theorem joinW_len : ∀ ws : List (List UInt8), (joinW 32 ws).length ≤ (ws.map fun x => x.length + 1).sum := fun ws => by
  induction ws with
  | nil => simp [joinW]
  | cons a l ih =>
    cases l with
    | nil => simp [joinW]
    | cons b l =>
      simp [joinW] at ih ⊢
      omega
theorem stWord_len (n : Nat) : (stWord n).length ≤ 7 := by
  unfold stWord
  split <;> simp
theorem Stp.Wf.small {s : Stp} (h : s.Wf) : w64 s.a ∧ w64 s.k ∧ w64 s.x := ⟨h.a, h.k, h.x⟩
theorem words_join_len {s : Stp} (h : s.Wf) (ht : s.text.length ≤ 4096) : (joinW 32 s.words).length ≤ 1048576 := by
  have h1 := joinW_len s.words
  have hs := h.small
  have ia : (Lib.itoa s.a).length ≤ 20 := itoa_len20 hs.1
  have ik : (Lib.itoa s.k).length ≤ 20 := itoa_len20 hs.2.1
  have ix : (Lib.itoa s.x).length ≤ 20 := itoa_len20 hs.2.2
  have iw : (stWord s.kind.toNat).length ≤ 7 := stWord_len _
  have it := hexT_len s.text
  have h2 : (s.words.map fun x => x.length + 1).sum ≤ 9000 := by
    unfold Stp.words Stp.nums
    cases stA s.kind <;> cases stK s.kind <;> cases stX s.kind <;> cases stT s.kind <;> simp <;> omega
  omega
theorem prog_line {s : Stp} {F : Nat} {acc : List Ins} (h : unpackP s.text = (0, F, acc)) (hk : s.kind = 1) : ∃ m, progText F acc = m ++ [10] ∧ s.line = subW ++ semi m ∧ (progCheck (F : Int) acc).1 = 0 ∧ (∀ x ∈ acc, x.k < 2 * signB) ∧ m.length ≤ 4000 := by
  obtain ⟨b1, b2, b3, b4⟩ := unpack_back h
  obtain ⟨m, hm⟩ := text_end F acc
  refine ⟨m, hm, ?_, b2, b3, ?_⟩
  · unfold Stp.line
    rw [if_pos ⟨hk, by rw [h]⟩, h]
    simp only
    rw [hm, List.dropLast_concat]
  · have h2 := prog_range b2
    have h3 := headT_le (fuel := F) (l := acc) (by omega) h2.2.2 (fun x hx => ⟨(prog_full b2 b3 x hx).1, by have := (prog_full b2 b3 x hx).2; omega⟩) acc.length
    rw [headT_all acc.length (Nat.le_refl _), hm, List.length_append] at h3
    simp at h3
    omega
theorem semi_len (m : List UInt8) : (semi m).length ≤ 2 * m.length := by
  induction m with
  | nil => simp [semi]
  | cons c m ih =>
    show ((if c = 10 then [59, 32] else [c]) ++ semi m).length ≤ _
    rw [List.length_append, List.length_cons]
    split <;> simp <;> omega

set_option maxHeartbeats 8000000 in
set_option maxRecDepth 100000 in
theorem sline_any (s : Stp) (hw : s.Wf) (ht : s.text.length ≤ 4096) (w : World) (hA : LibAt w) :
    Calls Tryz.prog 19 #[.agg #[.int .i64 s.kind, .int .i64 s.a, .int .i64 s.k, .int .i64 s.x, .string (strOf s.text)]] w fun e w' => e = .returned (.string (strOf s.line)) ∧ Below w.heap.size w w' := by
  have HA : Hid (∀ W, Below w.heap.size w W → LibAt W) := Lib.hid fun W hW => hA.keep hW
  have ku := fun W => unpack_any s.text (by omega) W
  obtain ⟨er, F, acc, hup⟩ : ∃ er F acc, unpackP s.text = (er, F, acc) := ⟨_, _, _, rfl⟩
  have HUP := Lib.hid hup
  have KU : Hid (∀ W, Calls Tryz.prog 37 #[.string (strOf s.text)] W fun e w' => (∃ A cap, e = .returned (.tuple #[.agg #[.int .i64 (F : Nat), .slice A acc.length cap], .int .i64 er]) ∧ RowI w' W.heap.size (.slice A acc.length cap) acc) ∧ Below W.heap.size W w') := Lib.hid fun W => (ku W).mono fun e w' ho => by
    obtain ⟨⟨A, cap, h1, h2, _⟩, h3⟩ := ho
    rw [hup] at h1 h2
    exact ⟨⟨A, cap, h1, h2⟩, h3⟩
  clear ku hup
  obtain ⟨kd, na, nk, nx, tx⟩ := s
  dsimp only at *
  have HX := Lib.hid (Cells.new w 34 #[.int .i64 kd, .int .i64 na, .int .i64 nk, .int .i64 nx, .string (strOf tx)])
  have HB := Lib.hid ((Below.refl w.heap.size w).alloc (Nat.le_refl _) (.cells #[.int .i64 kd, .int .i64 na, .int .i64 nk, .int .i64 nx, .string (strOf tx)] 34))
  have HWF := Lib.hid hw
  have HTX := Lib.hid ht
  obtain ⟨ST, hST⟩ : ∃ ST, strOf tx = ST := ⟨_, rfl⟩
  have HST := Lib.hid hST
  rw [hST] at HX HB KU ⊢
  clear hST hw ht hA
  go_enter Tryz.func19, Tryz.ntmps19
  go_upto_region 1 with fail
  generalize w.alloc (.cells #[.int .i64 kd, .int .i64 na, .int .i64 nk, .int .i64 nx, .string ST] 34) = w1 at *
  have c4 : w1.cell? ⟨w.heap.size, 4, none⟩ = some (.string ST) := HX.out.cell (j := 4) rfl
  go_upto_region 2 with (go_at_call 37; refine (KU.out _).mono ?_; rintro _ w2 ⟨⟨A, cap, rfl, hr2⟩, hb2⟩; have HR2 := Lib.hid hr2; have HX2 := Lib.hid (HX.out.keep hb2); have HB2 := Lib.hid (grow_to HB.out hb2); clear hr2 hb2)
  have HP3 := Lib.hid (Cells.new w2 71 #[.int .i64 (F : Nat), .slice A acc.length cap])
  have HX3 := Lib.hid (HX2.out.alloc (.cells #[.int .i64 (F : Nat), .slice A acc.length cap] 71))
  have HR3 : Hid (RowI (w2.alloc (.cells #[.int .i64 (F : Nat), .slice A acc.length cap] 71)) w1.heap.size (.slice A acc.length cap) acc) := Lib.hid (HR2.out.keep ((Below.refl w2.heap.size w2).alloc (Nat.le_refl _) _))
  have HB3 := Lib.hid (HB2.out.alloc HB2.out.size (.cells #[.int .i64 (F : Nat), .slice A acc.length cap] 71))
  clear KU c4 HX HB HX2 HB2 HR2
  generalize w2.alloc (.cells #[.int .i64 (F : Nat), .slice A acc.length cap] 71) = w3 at *
  generalize w2.heap.size = PB at *
  generalize w1.heap.size = b1 at *
  clear w2 w1
  have c0 : w3.cell? ⟨w.heap.size, 0, none⟩ = some (.int .i64 kd) := HX3.out.cell (j := 0) rfl
  by_cases hp : kd = 1 ∧ er = 0
  · obtain ⟨rfl, rfl⟩ := hp
    obtain ⟨m, hm, hl, hck, hk, hml⟩ := prog_line (s := ⟨1, na, nk, nx, tx⟩) HUP.out rfl
    have kp := print_any (F : Nat) A acc cap w3 (HR3.out.code hk) hk (HA.out _ HB3.out).all.tabs
    rw [if_pos hck, hck, show ((F : Nat) : Int).toNat = F from Int.toNat_natCast F, hm] at kp
    have KP := Lib.hid kp
    have p0 : w3.cell? ⟨PB, 0, none⟩ = some (.int .i64 (F : Nat)) := HP3.out.cell (j := 0) rfl
    have p1 : w3.cell? ⟨PB, 1, none⟩ = some (.slice A acc.length cap) := HP3.out.cell (j := 1) rfl
    have KT := Lib.hid (fun W => trim_any m (by omega) W)
    have KS := Lib.hid (fun W (hW : MaxAt W) => semi_any (l := m) (by omega) W hW)
    have HL : Hid (strOf (Stp.mk 1 na nk nx tx).line = { data := #[115, 117, 98, 109, 105, 116, 32] } ++ strOf (semi m)) := Lib.hid (by rw [hl, strOf_app]; rfl)
    have hsz : (strOf (semi m)).size ≤ 8000 := by rw [ba_size]; have := semi_len m; omega
    have e7 : (ByteArray.mk #[115, 117, 98, 109, 105, 116, 32]).size = 7 := rfl
    have hov : ¬ 9223372036854775807 < (ByteArray.mk #[115, 117, 98, 109, 105, 116, 32]).size + (strOf (semi m)).size := by omega
    generalize strOf (semi m) = S2 at *
    generalize strOf (m ++ [10]) = S0 at *
    generalize strOf m = S1 at *
    clear kp hm hl hck hk hml hsz e7
    go_wp2_with (first | (go_at_call 38; refine KP.out.mono ?_; rintro _ w4 ⟨rfl, hb4⟩; have HB4 := Lib.hid (grow_to HB3.out hb4); clear hb4) | (go_at_call 40; refine (KT.out _).mono ?_; rintro _ _ ⟨rfl, rfl⟩) | (go_at_call 39; refine (KS.out _ (HA.out _ HB4.out).max).mono ?_; rintro _ w5 ⟨rfl, hb5⟩; have HB5 := Lib.hid (grow_to HB4.out hb5); clear hb5))
    go_ret
    exact ⟨by rw [HL.out]; rfl, HB5.out⟩
  · have hnp : ¬ (Stp.mk kd na nk nx tx).isProg := fun h => hp ⟨h.1, by have := h.2; rw [HUP.out] at this; exact this⟩
    have HNP := Lib.hid hnp
    have hway : (kd == 1) = false ∨ ((kd == 1) = true ∧ (er == 0) = false) := by
      by_cases h1 : kd = 1
      · exact .inr ⟨by rw [h1]; rfl, by rw [beq_eq_false_iff_ne]; exact fun h2 => hp ⟨h1, h2⟩⟩
      · exact .inl (by rw [beq_eq_false_iff_ne]; exact h1)
    clear hnp hp
    have HEND : Hid (∀ T, joinW 32 (Stp.mk kd na nk nx tx).words = T → (Stp.mk kd na nk nx tx).line = T) := Lib.hid fun T h => by unfold Stp.line; rw [if_neg HNP.out, h]
    obtain ⟨i0, hi0, hz0, hz1, hz2⟩ := info_parts str_info
    obtain ⟨WS, hWS⟩ : ∃ WS, wordsTo (Stp.mk kd na nk nx tx) = WS := ⟨_, rfl⟩
    obtain ⟨WD, hWD⟩ : ∃ WD, strOf (stWord kd.toNat) = WD := ⟨_, rfl⟩
    have HW0 : Hid (WS 0 = [stWord kd.toNat]) := Lib.hid (hWS ▸ wordsTo_zero _)
    have HWD := Lib.hid hWD
    have h64 := HWF.out.small
    have HRD0 : Hid (∀ i, i < 3 → ∃ (fb : Bool) (nv : Int), (#[.bool (stA kd), .bool (stK kd), .bool (stX kd)] : Array Value)[i]? = some (.bool fb) ∧ (#[.int .i64 na, .int .i64 nk, .int .i64 nx] : Array Value)[i]? = some (.int .i64 nv) ∧ w64 nv ∧ WS (i + 1) = WS i ++ (if fb = true then [Lib.itoa nv] else [])) := Lib.hid fun i hi => by
      subst hWS
      obtain rfl | rfl | rfl : i = 0 ∨ i = 1 ∨ i = 2 := by omega
      · exact ⟨stA kd, na, rfl, rfl, h64.1, wordsTo_one _⟩
      · exact ⟨stK kd, nk, rfl, rfl, h64.2.1, wordsTo_two _⟩
      · exact ⟨stX kd, nx, rfl, rfl, h64.2.2, wordsTo_three _⟩
    have HALL0 : Hid ((Stp.mk kd na nk nx tx).words = WS 3 ++ (if stT kd = true then [hexT tx] else [])) := Lib.hid (hWS ▸ wordsTo_all _)
    have HWL : Hid (∀ i, (WS i).length ≤ 4) := Lib.hid fun i => hWS ▸ wordsTo_len _ i
    have HNE : Hid (∀ i, WS i ≠ []) := Lib.hid fun i => hWS ▸ (List.cons_ne_nil _ _)
    have HJL : Hid ((joinW 32 (Stp.mk kd na nk nx tx).words).length ≤ 1048576) := Lib.hid (words_join_len HWF.out HTX.out)
    have kf := fun W => formOf_any kd W
    rw [formV_is] at kf
    have KB : Hid (∀ W, Calls Tryz.prog 41 #[.string ST] W fun e w' => e = .returned (.string (strOf (hexT tx))) ∧ Below W.heap.size W w') := Lib.hid fun W => HST.out ▸ sbytes_any tx HTX.out W
    clear h64 hWS
    rw [hWD] at kf
    clear hWD
    obtain ⟨fa, hfa⟩ : ∃ fa, stA kd = fa := ⟨_, rfl⟩
    obtain ⟨fk, hfk⟩ : ∃ fk, stK kd = fk := ⟨_, rfl⟩
    obtain ⟨fx, hfx⟩ : ∃ fx, stX kd = fx := ⟨_, rfl⟩
    obtain ⟨ft, hft⟩ : ∃ ft, stT kd = ft := ⟨_, rfl⟩
    have HRD : Hid (∀ i, i < 3 → ∃ (fb : Bool) (nv : Int), (#[.bool fa, .bool fk, .bool fx] : Array Value)[i]? = some (.bool fb) ∧ (#[.int .i64 na, .int .i64 nk, .int .i64 nx] : Array Value)[i]? = some (.int .i64 nv) ∧ w64 nv ∧ WS (i + 1) = WS i ++ (if fb = true then [Lib.itoa nv] else [])) := Lib.hid (by rw [← hfa, ← hfk, ← hfx]; exact HRD0.out)
    have HALL : Hid ((Stp.mk kd na nk nx tx).words = WS 3 ++ (if ft = true then [hexT tx] else [])) := Lib.hid (by rw [← hft]; exact HALL0.out)
    rw [hfa, hfk, hfx, hft] at kf
    have KF := Lib.hid kf
    clear hfa hfk hfx hft kf HRD0 HALL0 HNP HUP
    rcases hway with t1 | ⟨t1, t2⟩
    all_goals go_upto_region 5 with fail
    all_goals go_upto_region 6 with (go_at_call 14; refine (KF.out _).mono ?_; rintro _ w4 ⟨rfl, hb4⟩; have HX4 := Lib.hid (HX3.out.keep hb4); have HB4 := Lib.hid (grow_to HB3.out hb4); clear hb4)
    all_goals as_aux_lemma => (
      have HF5 := Lib.hid (Cells.new w4 39 #[.string WD, .bool fa, .bool fk, .bool fx, .bool ft])
      have HX5 := Lib.hid (HX4.out.alloc (.cells #[.string WD, .bool fa, .bool fk, .bool fx, .bool ft] 39))
      have HB5 := Lib.hid (HB4.out.alloc HB4.out.size (.cells #[.string WD, .bool fa, .bool fk, .bool fx, .bool ft] 39))
      clear c0 HX3 HX4 HB3 HB4 KF HP3 HR3
      generalize w4.alloc (.cells #[.string WD, .bool fa, .bool fk, .bool fx, .bool ft] 39) = w5 at *
      generalize w4.heap.size = FB at *
      clear w4 w3
      have f0 : w5.cell? ⟨FB, 0, none⟩ = some (.string WD) := HF5.out.cell (j := 0) rfl
      go_upto_region 7 with fail
      have HR6 : Hid (RowS (w5.alloc (.cells #[.string WD] 9)) w.heap.size (.slice (some ⟨w5.heap.size, 0, none⟩) (WS 0).length 1) (WS 0)) := Lib.hid (by
        rw [HW0.out]
        have h := World.ownsRow_lit (base := w.heap.size) (e := 9) (size := 1) w5 #[.string WD] 1 HB5.out.size (by decide) rfl
        unfold RowS
        rw [List.map_cons, HWD.out]
        exact h)
      have HX6 := Lib.hid (HX5.out.alloc (.cells #[.string WD] 9))
      have HF6 := Lib.hid (HF5.out.alloc (.cells #[.string WD] 9))
      have HB6 := Lib.hid (HB5.out.alloc HB5.out.size (.cells #[.string WD] 9))
      clear f0 HX5 HB5 HF5
      generalize w5.alloc (.cells #[.string WD] 9) = w6 at *
      generalize w5.heap.size = RB at *
      clear w5
      have f1 : w6.cell? ⟨FB, 1, none⟩ = some (.bool fa) := HF6.out.cell (j := 1) rfl
      have f2 : w6.cell? ⟨FB, 2, none⟩ = some (.bool fk) := HF6.out.cell (j := 2) rfl
      have f3 : w6.cell? ⟨FB, 3, none⟩ = some (.bool fx) := HF6.out.cell (j := 3) rfl
      go_wp2
      have HL7 := Lib.hid (Cells.new w6 4 #[.bool fa, .bool fk, .bool fx])
      have HX7 := Lib.hid (HX6.out.alloc (.cells #[.bool fa, .bool fk, .bool fx] 4))
      have HF7 := Lib.hid (HF6.out.alloc (.cells #[.bool fa, .bool fk, .bool fx] 4))
      have HB7 := Lib.hid (HB6.out.alloc HB6.out.size (.cells #[.bool fa, .bool fk, .bool fx] 4))
      have HR7 := Lib.hid (HR6.out.keep ((Below.refl w6.heap.size w6).alloc (Nat.le_refl _) (.cells #[.bool fa, .bool fk, .bool fx] 4)))
      clear f1 f2 f3 HX6 HF6 HB6 HR6
      generalize w6.alloc (.cells #[.bool fa, .bool fk, .bool fx] 4) = w7 at *
      generalize w6.heap.size = BB at *
      clear w6
      go_loopw [47, 8] (fun iv sv wx => ∃ (i g cap : Nat), i ≤ 3 ∧ iv = .int .i64 (i : Int) ∧ sv = .slice (some ⟨g, 0, none⟩) (WS i).length cap ∧ RowS wx w.heap.size (.slice (some ⟨g, 0, none⟩) (WS i).length cap) (WS i) ∧ Below w.heap.size w wx ∧ Cells wx BB 4 #[.bool fa, .bool fk, .bool fx] ∧ Cells wx FB 39 #[.string WD, .bool fa, .bool fk, .bool fx, .bool ft] ∧ Cells wx w.heap.size 34 #[.int .i64 kd, .int .i64 na, .int .i64 nk, .int .i64 nx, .string ST]) (fun iv _ _ => 3 - (intOf iv).toNat)
      case atStart => exact ⟨0, RB, 1, by omega, rfl, by rw [HW0.out]; rfl, HR7.out, HB7.out, HL7.out, HF7.out, HX7.out⟩
      case round =>
        obtain ⟨i, g, cap, hi, rfl, rfl, hR, hB, hL, hF, hX⟩ := hrel
        have HRR := Lib.hid hR
        have HBR := Lib.hid hB
        have HLR := Lib.hid hL
        have HFR := Lib.hid hF
        have HXR := Lib.hid hX
        have hwl := HWL.out i
        clear hR hB hL hF hX HR7 HB7 HL7 HF7 HX7
        by_cases hlt : i < 3
        · obtain ⟨fb, nv, hbv, hnv, hn64, hws⟩ := HRD.out i hlt
          have l0 : wr.cell? ⟨BB, i, none⟩ = some (.bool fb) := HLR.out.cell hbv
          have x1 : wr.cell? ⟨w.heap.size, 1, none⟩ = some (.int .i64 na) := HXR.out.cell (j := 1) rfl
          have x2 : wr.cell? ⟨w.heap.size, 2, none⟩ = some (.int .i64 nk) := HXR.out.cell (j := 2) rfl
          have x3 : wr.cell? ⟨w.heap.size, 3, none⟩ = some (.int .i64 nx) := HXR.out.cell (j := 3) rfl
          have n0 : (wr.alloc (.cells #[.int .i64 na, .int .i64 nk, .int .i64 nx] 3)).cell? ⟨wr.heap.size, i, none⟩ = some (.int .i64 nv) := (Cells.new wr 3 #[.int .i64 na, .int .i64 nk, .int .i64 nx]).cell hnv
          have HBA := Lib.hid (HBR.out.alloc HBR.out.size (.cells #[.int .i64 na, .int .i64 nk, .int .i64 nx] 3))
          have HRA := Lib.hid (HRR.out.keep ((Below.refl wr.heap.size wr).alloc (Nat.le_refl _) (.cells #[.int .i64 na, .int .i64 nk, .int .i64 nx] 3)))
          have HLA := Lib.hid (HLR.out.alloc (.cells #[.int .i64 na, .int .i64 nk, .int .i64 nx] 3))
          have HFA := Lib.hid (HFR.out.alloc (.cells #[.int .i64 na, .int .i64 nk, .int .i64 nx] 3))
          have HXA := Lib.hid (HXR.out.alloc (.cells #[.int .i64 na, .int .i64 nk, .int .i64 nx] 3))
          have KI := Lib.hid (fun W (hW : TabsAt W) => itoa_is hn64.1 hn64.2 W hW)
          have i2 : (0 : Int) ≤ i := by omega
          have i3 : (i : Int) < 3 := by omega
          have hwi : wrap64 ((i : Int) + 1) = (i : Int) + 1 := by unfold wrap64; omega
          have HWI := Lib.hid hwi
          have HLT := Lib.hid hlt
          have HWS := Lib.hid hws
          have HWL3 : Hid ((WS i).length < 1073741824) := Lib.hid (by omega)
          clear hbv hnv hn64 hws hwi hwl hlt hi
          cases fb
          · have HW2 : Hid (WS (i + 1) = WS i) := Lib.hid (by rw [HWS.out]; simp)
            go_wp2
            refine ⟨⟨i + 1, g, cap, by have := HLT.out; omega, by first | exact up_val HWI.out | rfl, by rw [HW2.out], ?_, HBR.out, HLR.out, HFR.out, HXR.out⟩, by first | exact up_end HLT.out HWI.out | (have hh := HLT.out; simp [intOf]; omega)⟩
            rw [HW2.out]; exact HRR.out
          · have HW2 : Hid (WS (i + 1) = WS i ++ [Lib.itoa nv]) := Lib.hid (by rw [HWS.out]; simp)
            go_wp2_with (first | (go_at_call 17; refine (KI.out _ (HA.out _ HBA.out).all.tabs).mono ?_; rintro _ w8 ⟨rfl, hb8⟩; have HR8 := Lib.hid (HRA.out.keep hb8); have HB8 := Lib.hid (grow_to HBA.out hb8); have HL8 := Lib.hid (HLA.out.keep hb8); have HF8 := Lib.hid (HFA.out.keep hb8); have HX8 := Lib.hid (HXA.out.keep hb8); clear hb8) | (at_builtin; go_loud (refine wpList_append_elem' rfl _ _ _ rfl w.heap.size 9 i0 _ 1 16 Tryz.underlying65 hi0 hz0 hz1 hz2 rfl (by decide) (.slice (some ⟨g, 0, none⟩) (WS i).length cap) (WS i).length ((WS i).map fun p => Value.string (strOf p)) rfl HR8.out #[.string (strOf (Lib.itoa nv))] rfl (by simp [Value.oneCell']) _ rfl rfl HWL3.out (by decide) HB8.out.size ?_); intro v' w9 hown hgrow hat; obtain ⟨g', cap', rfl⟩ := ownsRow_succ hown; have HW9 : Hid (RowS w9 w.heap.size (.slice (some ⟨g', 0, none⟩) ((WS i).length + 1) cap') (WS i ++ [Lib.itoa nv])) := Lib.hid (rowS_snoc hown); have HB9 := Lib.hid (HB8.out.grown hgrow HB8.out.size (fun k hk => (World.ownsRow.lt HR8.out k hk).1)); have HL9 := Lib.hid (HL8.out.grown hgrow (fun e => RowS.ne HR8.out HL8.out (by decide) _ e.symm rfl)); have HF9 := Lib.hid (HF8.out.grown hgrow (fun e => RowS.ne HR8.out HF8.out (by decide) _ e.symm rfl)); have HX9 := Lib.hid (HX8.out.grown hgrow (fun e => RowS.ne HR8.out HX8.out (by decide) _ e.symm rfl)); clear hown hgrow hat))
            refine ⟨⟨i + 1, g', cap', by have := HLT.out; omega, by first | exact up_val HWI.out | rfl, ?_, ?_, HB9.out, HL9.out, HF9.out, HX9.out⟩, by first | exact up_end HLT.out HWI.out | (have hh := HLT.out; simp [intOf]; omega)⟩
            · rw [HW2.out, List.length_append]; rfl
            · rw [HW2.out, List.length_append]; exact HW9.out
        · obtain rfl : i = 3 := by omega
          have f4 : wr.cell? ⟨FB, 4, none⟩ = some (.bool ft) := HFR.out.cell (j := 4) rfl
          have x4 : wr.cell? ⟨w.heap.size, 4, none⟩ = some (.string ST) := HXR.out.cell (j := 4) rfl
          have HWL3 : Hid ((WS 3).length < 1073741824) := Lib.hid (by omega)
          have HAL := HALL.out
          clear hlt hi hwl
          cases ft
          · have KJ := Lib.hid (joinw_any HRR.out rfl (HNE.out 3) (by have := HJL.out; rw [HAL] at this; simpa using this) (by have := HWL.out 3; omega))
            have HE2 := Lib.hid (HEND.out (joinW 32 (WS 3)) (by rw [HAL]; simp))
            go_wp2_with (go_at_call 42; refine KJ.out.mono ?_; rintro _ w9 ⟨rfl, hb9⟩; have HB9 := Lib.hid (grow_to HBR.out hb9); clear hb9)
            go_ret
            exact ⟨by rw [HE2.out]; rfl, HB9.out⟩
          · go_wp2_with (first | (go_at_call 41; refine (KB.out _).mono ?_; rintro _ w8 ⟨rfl, hb8⟩; have HR8 := Lib.hid (HRR.out.keep hb8); have HB8 := Lib.hid (grow_to HBR.out hb8); clear hb8) | (at_builtin; go_loud (refine wpList_append_elem' rfl _ _ _ rfl w.heap.size 9 i0 _ 1 16 Tryz.underlying65 hi0 hz0 hz1 hz2 rfl (by decide) (.slice (some ⟨g, 0, none⟩) (WS 3).length cap) (WS 3).length ((WS 3).map fun p => Value.string (strOf p)) rfl HR8.out #[.string (strOf (hexT tx))] rfl (by simp [Value.oneCell']) _ rfl rfl HWL3.out (by decide) HB8.out.size ?_); intro v' w9 hown hgrow hat; obtain ⟨g', cap', rfl⟩ := ownsRow_succ hown; have HW9 : Hid (RowS w9 w.heap.size (.slice (some ⟨g', 0, none⟩) ((WS 3).length + 1) cap') (WS 3 ++ [hexT tx])) := Lib.hid (rowS_snoc hown); have HB9 := Lib.hid (HB8.out.grown hgrow HB8.out.size (fun k hk => (World.ownsRow.lt HR8.out k hk).1)); clear hown hgrow hat) | (go_at_call 42; refine (joinw_any HW9.out (by simp) (by simp) (by have := HJL.out; rw [HAL] at this; simpa using this) (by rw [List.length_append]; have := HWL.out 3; simp; omega)).mono ?_; rintro _ w10 ⟨rfl, hb9⟩; have HB10 := Lib.hid (grow_to HB9.out hb9); clear hb9))
            go_ret
            exact ⟨by rw [HEND.out (joinW 32 (WS 3 ++ [hexT tx])) (by rw [HAL]; simp)]; rfl, HB10.out⟩)
end Go.Proofs.YtdkencepmdfacaaGreatDoor
