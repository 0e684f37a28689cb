/- script.Print (contract). -/
import Derived.RangeFuncBox
import Derived.Test.YtdkencepmdfacaaGreatDoorTh
import Derived.Test.YtdkencepmdfacaaGreatDoorTn
import Derived.Test.YtdkencepmdfacaaGreatDoorTa
import Derived.Test.YtdkencepmdfacaaGreatDoorGr9
import Derived.Test.YtdkencepmdfacaaGreatDoorGr5
set_option maxRecDepth 100000
namespace Go.Proofs.YtdkencepmdfacaaGreatDoor
open Go.RowKit Ieee

def hdT (c : Cfg) (i : Nat) : List UInt8 := fleetW ++ (c.nums.take i).flatMap fun n => 32 :: Lib.itoa n
theorem hdT_succ {c : Cfg} {i : Nat} {n : Int} (h : c.nums[i]? = some n) : hdT c (i + 1) = hdT c i ++ ([32] ++ Lib.itoa n) := by
  unfold hdT
  rw [List.take_add_one, h]
  simp
theorem hdT_all (c : Cfg) : hdT c 9 = c.line := by
  unfold hdT Cfg.line Cfg.words Cfg.nums
  simp [joinW]
theorem hdT_len (c : Cfg) (h : ∀ n ∈ c.nums, w64 n) (i : Nat) : (hdT c i).length ≤ 5 + 21 * 9 := by
  have key : ∀ (l : List Int), (∀ n ∈ l, w64 n) → (l.flatMap fun n => 32 :: Lib.itoa n).length ≤ 21 * l.length := fun l => by
    induction l with
    | nil => simp
    | cons n l ih =>
      intro h
      have h1 := itoa_len20 (h n (by simp))
      have h2 := ih fun m hm => h m (by simp [hm])
      simp at h2 ⊢
      omega
  have h1 := key (c.nums.take i) fun n hn => h n (List.mem_of_mem_take hn)
  have h2 : (c.nums.take i).length ≤ 9 := by rw [List.length_take]; exact Nat.le_trans (Nat.min_le_right _ _) (by simp [Cfg.nums])
  unfold hdT
  rw [List.length_append]
  have : fleetW.length = 5 := rfl
  omega
theorem sline_len {s : Stp} (h : s.Wf) (ht : s.text.length ≤ 4096) : s.line.length ≤ 1048576 := by
  by_cases hp : s.isProg
  · obtain ⟨F, acc, hup⟩ : ∃ F acc, unpackP s.text = (0, F, acc) := ⟨_, _, by rw [← hp.2]⟩
    obtain ⟨m, _, hl, _, _, hml⟩ := prog_line hup hp.1
    rw [hl, List.length_append]
    have := semi_len m
    have : subW.length = 7 := rfl
    omega
  · unfold Stp.line
    rw [if_neg hp]
    exact words_join_len h ht
theorem only_str (s : Stp) : (if stT s.kind = true then s.str else ⟨#[]⟩) = s.only.str := by
  unfold Stp.only Stp.str
  cases stT s.kind <;> rfl
theorem stWord_out {k : Int} (h : ¬ (1 ≤ k ∧ k ≤ 12)) : stWord k.toNat = [] := by rw [← stWord_if, if_neg h]
theorem stWord_in {k : Int} (h : 1 ≤ k ∧ k ≤ 12) : stWord k.toNat ≠ [] := by
  obtain ⟨n, rfl⟩ := Int.eq_ofNat_of_zero_le (show 0 ≤ k by omega)
  rw [Int.toNat_natCast]
  have h1 : 1 ≤ n ∧ n ≤ 12 := by omega
  clear h
  obtain ⟨h0, h1⟩ := h1
  have : n = 1 ∨ n = 2 ∨ n = 3 ∨ n = 4 ∨ n = 5 ∨ n = 6 ∨ n = 7 ∨ n = 8 ∨ n = 9 ∨ n = 10 ∨ n = 11 ∨ n = 12 := by omega
  rcases this with rfl | rfl | rfl | rfl | rfl | rfl | rfl | rfl | rfl | rfl | rfl | rfl <;> simp [stWord]
theorem drop_at {l : List Stp} {i : Nat} {x : Stp} (h : l[i]? = some x) : l.drop i = x :: l.drop (i + 1) := by
  have hi := (List.getElem?_eq_some_iff.1 h).1
  rw [List.drop_eq_getElem_cons hi]
  congr 1
  exact (List.getElem?_eq_some_iff.1 h).2
theorem StepsIn.at_ {w : World} {B : Nat} {A : Option Addr} {l : List Stp} (h : StepsIn w B A l) {i : Nat} {x : Stp} (hx : l[i]? = some x) : ∃ b off, A = some ⟨b, off, none⟩ ∧ b < B ∧ StepAt w b (off + i * 5) x ∧ x.W64 := by
  have hi := (List.getElem?_eq_some_iff.1 hx).1
  obtain ⟨b, off, e, hb, hc⟩ := h (by omega)
  exact ⟨b, off, e, hb, (hc i x hx).1, (hc i x hx).2⟩

set_option maxHeartbeats 8000000 in
set_option maxRecDepth 100000 in
theorem sprint_any (c : Cfg) (h64 : ∀ n ∈ c.nums, w64 n) (A : Option Addr) (l : List Stp) (cap : Nat) (w : World) (hC : StepsIn w w.heap.size A l) (hA : LibAt w) :
    Calls Tryz.prog 7 #[c.val, .slice A l.length cap] w fun e w' => e = .returned (.tuple #[.string (strOf (printS c l).2), .int .i64 (printS c l).1]) ∧ Below w.heap.size w w' := by
  have HA : Hid (∀ W, Below w.heap.size w W → LibAt W) := Lib.hid fun W hW => hA.keep hW
  have HC := Lib.hid hC
  have H64 := Lib.hid h64
  have kch : ∀ W, Calls Tryz.prog 13 #[.agg #[.int .i64 c.ru, .int .i64 c.le, .int .i64 c.re, .int .i64 c.att, .int .i64 c.wi, .int .i64 c.qu, .int .i64 c.bl, .int .i64 c.ev, .int .i64 c.ha]] W fun e w' => e = .returned (.int .i64 (if c.ok then 0 else 180)) ∧ Below W.heap.size W w' := fun W => ccheck_any c W
  have HX := Lib.hid (Cells.new w 23 #[.int .i64 c.ru, .int .i64 c.le, .int .i64 c.re, .int .i64 c.att, .int .i64 c.wi, .int .i64 c.qu, .int .i64 c.bl, .int .i64 c.ev, .int .i64 c.ha])
  have HB := Lib.hid ((Below.refl w.heap.size w).alloc (Nat.le_refl _) (.cells #[.int .i64 c.ru, .int .i64 c.le, .int .i64 c.re, .int .i64 c.att, .int .i64 c.wi, .int .i64 c.qu, .int .i64 c.bl, .int .i64 c.ev, .int .i64 c.ha] 23))
  obtain ⟨PS, hPS⟩ : ∃ PS, printS c l = PS := ⟨_, rfl⟩
  rw [hPS]
  have HPS := Lib.hid hPS
  obtain ⟨len, hlen⟩ : ∃ len, l.length = len := ⟨_, rfl⟩
  rw [hlen]
  have HLEN := Lib.hid hlen
  show Calls Tryz.prog 7 #[.agg #[.int .i64 c.ru, .int .i64 c.le, .int .i64 c.re, .int .i64 c.att, .int .i64 c.wi, .int .i64 c.qu, .int .i64 c.bl, .int .i64 c.ev, .int .i64 c.ha], .slice A len cap] w _
  clear hPS hlen hC h64 hA
  go_enter Tryz.func7, Tryz.ntmps7
  go_upto_region 1 with fail
  generalize w.alloc (.cells #[.int .i64 c.ru, .int .i64 c.le, .int .i64 c.re, .int .i64 c.att, .int .i64 c.wi, .int .i64 c.qu, .int .i64 c.bl, .int .i64 c.ev, .int .i64 c.ha] 23) = w1 at *
  have x0 : w1.cell? ⟨w.heap.size, 0, none⟩ = some (.int .i64 c.ru) := HX.out.cell (j := 0) rfl
  have x1 : w1.cell? ⟨w.heap.size, 1, none⟩ = some (.int .i64 c.le) := HX.out.cell (j := 1) rfl
  have x2 : w1.cell? ⟨w.heap.size, 2, none⟩ = some (.int .i64 c.re) := HX.out.cell (j := 2) rfl
  have x3 : w1.cell? ⟨w.heap.size, 3, none⟩ = some (.int .i64 c.att) := HX.out.cell (j := 3) rfl
  have x4 : w1.cell? ⟨w.heap.size, 4, none⟩ = some (.int .i64 c.wi) := HX.out.cell (j := 4) rfl
  have x5 : w1.cell? ⟨w.heap.size, 5, none⟩ = some (.int .i64 c.qu) := HX.out.cell (j := 5) rfl
  have x6 : w1.cell? ⟨w.heap.size, 6, none⟩ = some (.int .i64 c.bl) := HX.out.cell (j := 6) rfl
  have x7 : w1.cell? ⟨w.heap.size, 7, none⟩ = some (.int .i64 c.ev) := HX.out.cell (j := 7) rfl
  have x8 : w1.cell? ⟨w.heap.size, 8, none⟩ = some (.int .i64 c.ha) := HX.out.cell (j := 8) rfl
  by_cases hok : c.ok
  case neg =>
    have e0 : PS = (230, []) := HPS.out.symm.trans (by unfold printS; rw [if_pos hok])
    rw [if_neg hok] at kch
    have KCH := Lib.hid kch
    have HE0 := Lib.hid e0
    clear e0 kch hok HC HPS
    go_wp2_with (go_at_call 13; refine (KCH.out _).mono ?_; rintro _ w2 ⟨rfl, hb2⟩; have HB2 := Lib.hid (grow_to HB.out hb2); clear hb2)
    go_ret2
    exact ⟨by rw [HE0.out]; rfl, HB2.out⟩
  rw [if_pos hok] at kch
  have KCH := Lib.hid kch
  have HOK := Lib.hid hok
  clear kch hok
  go_upto_region 3 with (go_at_call 13; refine (KCH.out _).mono ?_; rintro _ w2 ⟨rfl, hb2⟩; have HB2 := Lib.hid (grow_to HB.out hb2); have HX2 := Lib.hid (HX.out.keep hb2); clear hb2)
  clear KCH HB HX x0 x1 x2 x3 x4 x5 x6 x7 x8 w1
  by_cases hbig : (2000 : Int) < len
  case pos =>
    have e0 : PS = (232, []) := HPS.out.symm.trans (by unfold printS; rw [if_neg (fun h => h HOK.out), if_pos (by have := HLEN.out; omega)])
    have HE0 := Lib.hid e0
    clear e0 HC HPS
    go_wp2
    go_ret2
    exact ⟨by rw [HE0.out]; rfl, HB2.out⟩
  have HSM : Hid (len ≤ 2000) := Lib.hid (by omega)
  go_wp2
  clear hbig
  go_loopw [23] (fun iv wr => ∃ i : Nat, i ≤ len ∧ iv = .int .i64 (i : Int) ∧ Below w2.heap.size w2 wr ∧ ∀ (k : Nat) (x : Stp), k < i → l[k]? = some x → x.okKind) (fun iv _ => len - (intOf iv).toNat)
  case atStart => exact ⟨0, Nat.zero_le _, rfl, Below.refl _ _, fun k x hk => absurd hk (by omega)⟩
  case round =>
    obtain ⟨i, hi, rfl, hB, hK⟩ := hrel
    have HXR := Lib.hid (HX2.out.keep hB)
    have HBR := Lib.hid (grow_to HB2.out hB)
    have HKN := Lib.hid hK
    have HBS := Lib.hid hB
    clear hB hK
    by_cases hlt : i < len
    · obtain ⟨x, hx⟩ : ∃ x, l[i]? = some x := ⟨l[i]'(by rw [HLEN.out]; exact hlt), List.getElem?_eq_getElem _⟩
      obtain ⟨b, off, rfl, hb, hat, hw6⟩ := HC.out.at_ hx
      obtain ⟨c0, c1, c2, c3, c4⟩ := hat.keep HBR.out hb
      have HXL := Lib.hid hx
      have HLT := Lib.hid hlt
      have i0 : (0 : Int) ≤ i := by omega
      have i1 : (i : Int) < len := by omega
      have hwi : wrap64 ((i : Int) + 1) = (i : Int) + 1 := by have := HSM.out; unfold wrap64; omega
      have HWI := Lib.hid hwi
      have kf := fun W => formOf_any x.kind W
      rw [formV_is] at kf
      have kn : ∀ W, Calls Tryz.prog 15 #[.agg #[.string (strOf (stWord x.kind.toNat)), .bool (stA x.kind), .bool (stK x.kind), .bool (stX x.kind), .bool (stT x.kind)], .agg #[.int .i64 x.kind, .int .i64 x.a, .int .i64 x.k, .int .i64 x.x, .string x.str]] W fun e w' => e = .returned (.agg #[.int .i64 x.only.kind, .int .i64 x.only.a, .int .i64 x.only.k, .int .i64 x.only.x, .string x.only.str]) ∧ Below W.heap.size W w' := fun W => by
        have k := named_any (strOf (stWord x.kind.toNat)) (stA x.kind) (stK x.kind) (stX x.kind) (stT x.kind) x.kind x.a x.k x.x x.str W
        rw [only_str] at k
        exact k
      have hq := fun W => step_neq x.only x W
      have HKD : Hid ((1 ≤ x.kind ∧ x.kind ≤ 12 ∧ (strOf (stWord x.kind.toNat)).toList ≠ [] ∧ (x.okKind ↔ x.only = x)) ∨ (strOf (stWord x.kind.toNat) = ⟨#[]⟩ ∧ ¬ x.okKind)) := Lib.hid (by
        by_cases hk : 1 ≤ x.kind ∧ x.kind ≤ 12
        · exact .inl ⟨hk.1, hk.2, by rw [str_toList]; exact stWord_in hk, ⟨fun h => h.2.2, fun h => ⟨hk.1, hk.2, h⟩⟩⟩
        · exact .inr ⟨(congrArg strOf (stWord_out hk)).trans rfl, fun h => hk ⟨h.1, h.2.1⟩⟩)
      obtain ⟨ob, hob⟩ : ∃ ob, decide (x.only = x) = ob := ⟨_, rfl⟩
      have HOB : Hid (decide (x.only = x) = ob) := Lib.hid hob
      simp only [hob] at hq
      clear hob hwi hlt hi hat hx
      generalize strOf (stWord x.kind.toNat) = WD at *
      generalize stA x.kind = fa at *
      generalize stK x.kind = fk at *
      generalize stX x.kind = fx at *
      generalize stT x.kind = ft at *
      generalize x.only.kind = od at *
      generalize x.only.a = oa at *
      generalize x.only.k = ok at *
      generalize x.only.x = ox at *
      generalize x.only.str = OT at *
      obtain ⟨xd, hxd⟩ : ∃ xd, x.kind = xd := ⟨_, rfl⟩
      rw [hxd] at c0 kf kn hq HKD
      clear hxd
      generalize x.a = xa at *
      generalize x.k = xk at *
      generalize x.x = xx at *
      generalize x.str = XT at *
      have KF := Lib.hid kf
      have KN := Lib.hid kn
      clear kf kn
      go_upto_region 8 with fail
      have HS3 := Lib.hid (Cells.new wr 34 #[.int .i64 xd, .int .i64 xa, .int .i64 xk, .int .i64 xx, .string XT])
      have HB3 := Lib.hid (HBS.out.alloc HBS.out.size (.cells #[.int .i64 xd, .int .i64 xa, .int .i64 xk, .int .i64 xx, .string XT] 34))
      clear c0 c1 c2 c3 c4 HBS HXR HBR
      generalize wr.alloc (.cells #[.int .i64 xd, .int .i64 xa, .int .i64 xk, .int .i64 xx, .string XT] 34) = w3 at *
      generalize wr.heap.size = SB at *
      clear wr
      have s0 : w3.cell? ⟨SB, 0, none⟩ = some (.int .i64 xd) := HS3.out.cell (j := 0) rfl
      go_upto_region 9 with (go_at_call 14; refine (KF.out _).mono ?_; rintro _ w4 ⟨rfl, hb4⟩; have HS4 := Lib.hid (HS3.out.keep hb4); have HB4 := Lib.hid (grow_to HB3.out hb4); clear hb4)
      have HF5 := Lib.hid (Cells.new w4 39 #[.string WD, .bool fa, .bool fk, .bool fx, .bool ft])
      have HS5 := Lib.hid (HS4.out.alloc (.cells #[.string WD, .bool fa, .bool fk, .bool fx, .bool ft] 39))
      have HB5 := Lib.hid (HB4.out.alloc HB4.out.size (.cells #[.string WD, .bool fa, .bool fk, .bool fx, .bool ft] 39))
      clear s0 HS3 HB3 HS4 HB4 KF
      generalize w4.alloc (.cells #[.string WD, .bool fa, .bool fk, .bool fx, .bool ft] 39) = w5 at *
      generalize w4.heap.size = FB at *
      clear w4 w3
      rcases HKD.out with ⟨_, _, hne, hiff⟩ | ⟨rfl, hno⟩
      · have hz : (WD.toList == []) = false := by rw [beq_eq_false_iff_ne]; exact hne
        have hz2 : (WD.toList == ([] : List UInt8)) = false := hz
        have HIFF := Lib.hid hiff
        clear hne hiff HKD
        have f0 : ∀ y : BW w5, y.val.cell? ⟨FB, 0, none⟩ = some (.string WD) := fun y => y.cell (HF5.out.cell (j := 0) rfl)
        have f1 : ∀ y : BW w5, y.val.cell? ⟨FB, 1, none⟩ = some (.bool fa) := fun y => y.cell (HF5.out.cell (j := 1) rfl)
        have f2 : ∀ y : BW w5, y.val.cell? ⟨FB, 2, none⟩ = some (.bool fk) := fun y => y.cell (HF5.out.cell (j := 2) rfl)
        have f3 : ∀ y : BW w5, y.val.cell? ⟨FB, 3, none⟩ = some (.bool fx) := fun y => y.cell (HF5.out.cell (j := 3) rfl)
        have f4 : ∀ y : BW w5, y.val.cell? ⟨FB, 4, none⟩ = some (.bool ft) := fun y => y.cell (HF5.out.cell (j := 4) rfl)
        have s0 : ∀ y : BW w5, y.val.cell? ⟨SB, 0, none⟩ = some (.int .i64 xd) := fun y => y.cell (HS5.out.cell (j := 0) rfl)
        have s1 : ∀ y : BW w5, y.val.cell? ⟨SB, 1, none⟩ = some (.int .i64 xa) := fun y => y.cell (HS5.out.cell (j := 1) rfl)
        have s2 : ∀ y : BW w5, y.val.cell? ⟨SB, 2, none⟩ = some (.int .i64 xk) := fun y => y.cell (HS5.out.cell (j := 2) rfl)
        have s3 : ∀ y : BW w5, y.val.cell? ⟨SB, 3, none⟩ = some (.int .i64 xx) := fun y => y.cell (HS5.out.cell (j := 3) rfl)
        have s4 : ∀ y : BW w5, y.val.cell? ⟨SB, 4, none⟩ = some (.string XT) := fun y => y.cell (HS5.out.cell (j := 4) rfl)
        refine wp_region_bw (w := w5) (by kernel_rfl) (by kernel_rfl) ?_
        repeat (refine wpQuiet_step (fun K hK => ?_); go_simp; first | (refine hK _ ?_; clear hK K) | (apply Exists.intro; refine ⟨fun _ => ?_, hK _ ?_⟩; (go_at_call 15; with_reducible exact Calls.quiet_bw (KN.out _)); clear hK K))
        refine wpQuiet_nil ?_
        intro yq
        have HB6 := Lib.hid (grow_to HB5.out yq.below)
        clear f0 f1 f2 f3 f4 s0 s1 s2 s3 s4 HF5 HS5 HB5 KN hq hz hz2
        generalize yq.val = w6 at *
        cases ob
        · have e0 : PS = (231, []) := HPS.out.symm.trans (by
            unfold printS
            rw [if_neg (fun h => h HOK.out), if_neg (by have := HLEN.out; have := HSM.out; omega), if_pos (fun h => (of_decide_eq_false HOB.out) (HIFF.out.1 (h x (List.mem_of_getElem? HXL.out))))])
          have HE0 := Lib.hid e0
          clear e0
          go_wp2
          go_ret2
          exact ⟨by rw [HE0.out]; rfl, grow_to HB2.out HB6.out⟩
        · have HKX : Hid x.okKind := Lib.hid (HIFF.out.2 (of_decide_eq_true HOB.out))
          go_wp2
          exact ⟨⟨i + 1, HLT.out, up_val HWI.out, HB6.out, fun k y hk hy => by
            rcases Nat.lt_or_ge k i with h | h
            · exact HKN.out k y h hy
            · obtain rfl : k = i := by omega
              rw [HXL.out] at hy
              injection hy with hy
              exact hy ▸ HKX.out⟩, by first | exact up_end HLT.out HWI.out | (have hh := HLT.out; simp [intOf]; omega)⟩
      · have e0 : PS = (231, []) := HPS.out.symm.trans (by
          unfold printS
          rw [if_neg (fun h => h HOK.out), if_neg (by have := HLEN.out; have := HSM.out; omega), if_pos (fun h => hno (h x (List.mem_of_getElem? HXL.out)))])
        have HE0 := Lib.hid e0
        clear e0 hno HKD
        have f0 : ∀ y : BW w5, y.val.cell? ⟨FB, 0, none⟩ = some (.string ⟨#[]⟩) := fun y => y.cell (HF5.out.cell (j := 0) rfl)
        refine wp_region_bw (w := w5) (by kernel_rfl) (by kernel_rfl) ?_
        repeat (refine wpQuiet_step (fun K hK => ?_); go_simp; first | (refine hK _ ?_; clear hK K) | (apply Exists.intro; refine ⟨fun _ => ?_, hK _ ?_⟩; (fail); clear hK K))
        refine wpQuiet_nil ?_
        intro yq
        have HB6 := Lib.hid (grow_to HB5.out yq.below)
        clear f0 HF5 HS5 HB5 KN hq
        generalize yq.val = w6 at *
        go_wp2
        go_ret2
        exact ⟨by rw [HE0.out]; rfl, grow_to HB2.out HB6.out⟩
    · obtain rfl : i = len := by omega
      have i1 : ¬ (i : Int) < i := by omega
      have HALLK : Hid (∀ x ∈ l, x.okKind) := Lib.hid fun x hx => by
        obtain ⟨k, hk, rfl⟩ := List.getElem_of_mem hx
        exact HKN.out k _ (by rw [← HLEN.out]; exact hk) (List.getElem?_eq_getElem _)
      clear HKN HBS hlt hi HX2 HB2
      go_upto_region 13 with fail
      have HBd4 := Lib.hid (Bd.new wr)
      have HX4 := Lib.hid (HXR.out.alloc (.cells #[.pointer none, .slice none 0 0] 45))
      have HB4 := Lib.hid (HBR.out.alloc HBR.out.size (.cells #[.pointer none, .slice none 0 0] 45))
      have HWB := Lib.hid (show w.heap.size < wr.heap.size from HXR.out.lt)
      clear HXR HBR i1
      generalize wr.alloc (.cells #[.pointer none, .slice none 0 0] 45) = w4 at *
      generalize wr.heap.size = Bb at *
      have kw0 : Calls Tryz.prog 16 #[.pointer (some ⟨Bb, 0, none⟩), .string { data := #[102, 108, 101, 101, 116] }] w4 fun e w' => (∃ n, e = .returned (.tuple #[.int .i64 n, .nilIface])) ∧ Bd w' Bb (hdT c 0) ∧ BK Bb w4 w' :=
        (wstr_any HBd4.out fleetW (by decide)).mono fun e w' h => ⟨⟨_, h.1⟩, h.2.1, h.2.2⟩
      have KW0 := Lib.hid kw0
      clear kw0
      go_upto_region 14 with (go_at_call 16; refine KW0.out.mono ?_; rintro _ w5 ⟨⟨nn, rfl⟩, hd5, hk5⟩; have HD5 := Lib.hid hd5; have HX5 := Lib.hid (HX4.out.bk hk5 (Nat.ne_of_lt HWB.out) (by decide)); have HB5 := Lib.hid (HB4.out.trans (Below.mono hk5.below (Nat.le_of_lt HWB.out))); clear hd5 hk5)
      clear KW0 HBd4 HX4 HB4
      have x0 : w5.cell? ⟨w.heap.size, 0, none⟩ = some (.int .i64 c.ru) := HX5.out.cell (j := 0) rfl
      have x1 : w5.cell? ⟨w.heap.size, 1, none⟩ = some (.int .i64 c.le) := HX5.out.cell (j := 1) rfl
      have x2 : w5.cell? ⟨w.heap.size, 2, none⟩ = some (.int .i64 c.re) := HX5.out.cell (j := 2) rfl
      have x3 : w5.cell? ⟨w.heap.size, 3, none⟩ = some (.int .i64 c.att) := HX5.out.cell (j := 3) rfl
      have x4 : w5.cell? ⟨w.heap.size, 4, none⟩ = some (.int .i64 c.wi) := HX5.out.cell (j := 4) rfl
      have x5 : w5.cell? ⟨w.heap.size, 5, none⟩ = some (.int .i64 c.qu) := HX5.out.cell (j := 5) rfl
      have x6 : w5.cell? ⟨w.heap.size, 6, none⟩ = some (.int .i64 c.bl) := HX5.out.cell (j := 6) rfl
      have x7 : w5.cell? ⟨w.heap.size, 7, none⟩ = some (.int .i64 c.ev) := HX5.out.cell (j := 7) rfl
      have x8 : w5.cell? ⟨w.heap.size, 8, none⟩ = some (.int .i64 c.ha) := HX5.out.cell (j := 8) rfl
      go_wp2
      have HN6 := Lib.hid (Cells.new w5 3 #[.int .i64 c.ru, .int .i64 c.le, .int .i64 c.re, .int .i64 c.att, .int .i64 c.wi, .int .i64 c.qu, .int .i64 c.bl, .int .i64 c.ev, .int .i64 c.ha])
      have HD6 := Lib.hid (HD5.out.keep ((Below.refl w5.heap.size w5).alloc (Nat.le_refl _) (.cells #[.int .i64 c.ru, .int .i64 c.le, .int .i64 c.re, .int .i64 c.att, .int .i64 c.wi, .int .i64 c.qu, .int .i64 c.bl, .int .i64 c.ev, .int .i64 c.ha] 3)))
      have HB6 := Lib.hid (HB5.out.alloc HB5.out.size (.cells #[.int .i64 c.ru, .int .i64 c.le, .int .i64 c.re, .int .i64 c.att, .int .i64 c.wi, .int .i64 c.qu, .int .i64 c.bl, .int .i64 c.ev, .int .i64 c.ha] 3))
      have HNL := Lib.hid (Nat.ne_of_gt HD5.out.lt)
      clear HX5 HD5 HB5 x0 x1 x2 x3 x4 x5 x6 x7 x8
      generalize w5.alloc (.cells #[.int .i64 c.ru, .int .i64 c.le, .int .i64 c.re, .int .i64 c.att, .int .i64 c.wi, .int .i64 c.qu, .int .i64 c.bl, .int .i64 c.ev, .int .i64 c.ha] 3) = w6 at *
      generalize w5.heap.size = NB at *
      go_loopw [62] (fun iv wr => ∃ i : Nat, i ≤ 9 ∧ iv = .int .i64 (i : Int) ∧ Bd wr Bb (hdT c i) ∧ BK Bb w6 wr) (fun iv _ => 9 - (intOf iv).toNat)
      case atStart => exact ⟨0, by omega, rfl, HD6.out, BK.refl _ _⟩
      case round =>
        obtain ⟨j, hj, rfl, hd, hk⟩ := hrel
        have HDR := Lib.hid hd
        have HKR := Lib.hid hk
        have HNR := Lib.hid (HN6.out.bk hk HNL.out (by decide))
        have HBR := Lib.hid (HB6.out.trans (Below.mono hk.below (Nat.le_of_lt HWB.out)))
        clear hd hk
        by_cases hlt : j < 9
        · obtain ⟨n, hn⟩ : ∃ n, c.nums[j]? = some n := ⟨c.nums[j]'(by simp [Cfg.nums]; omega), List.getElem?_eq_getElem _⟩
          have hcell : (#[.int .i64 c.ru, .int .i64 c.le, .int .i64 c.re, .int .i64 c.att, .int .i64 c.wi, .int .i64 c.qu, .int .i64 c.bl, .int .i64 c.ev, .int .i64 c.ha] : Array Value)[j]? = some (.int .i64 n) := by
            have : (#[.int .i64 c.ru, .int .i64 c.le, .int .i64 c.re, .int .i64 c.att, .int .i64 c.wi, .int .i64 c.qu, .int .i64 c.bl, .int .i64 c.ev, .int .i64 c.ha] : Array Value)[j]? = (c.nums[j]?).map (Value.int .i64) := by
              have : (#[.int .i64 c.ru, .int .i64 c.le, .int .i64 c.re, .int .i64 c.att, .int .i64 c.wi, .int .i64 c.qu, .int .i64 c.bl, .int .i64 c.ev, .int .i64 c.ha] : Array Value) = (c.nums.map (Value.int .i64)).toArray := rfl
              rw [this, List.getElem?_toArray, List.getElem?_map]
            rw [this, hn]; rfl
          have l0 : wr.cell? ⟨NB, j, none⟩ = some (.int .i64 n) := HNR.out.cell hcell
          have hn64 := H64.out n (List.mem_of_getElem? hn)
          have KI := Lib.hid (itoa_is hn64.1 hn64.2 wr (HA.out _ HBR.out).all.tabs)
          have HSU := Lib.hid (hdT_succ hn)
          have HDL := Lib.hid (hdT_len c H64.out j)
          have hil := itoa_len20 hn64
          have HIL := Lib.hid hil
          have i0 : (0 : Int) ≤ j := by omega
          have i1 : (j : Int) < 9 := by omega
          have HLT := Lib.hid hlt
          have hwi : wrap64 ((j : Int) + 1) = (j : Int) + 1 := by unfold wrap64; omega
          have HWI := Lib.hid hwi
          have z1 : ¬ 9223372036854775807 < (ByteArray.mk #[32]).size + (strOf (Lib.itoa n)).size := by rw [show (ByteArray.mk #[32]).size = 1 from rfl, ba_size]; omega
          have KW : Hid (∀ W, Bd W Bb (hdT c j) → Calls Tryz.prog 16 #[.pointer (some ⟨Bb, 0, none⟩), .string ({ data := #[32] } ++ strOf (Lib.itoa n))] W fun e w' => (∃ n, e = .returned (.tuple #[.int .i64 n, .nilIface])) ∧ Bd w' Bb (hdT c (j + 1)) ∧ BK Bb W w') := Lib.hid fun W hW => by
            rw [HSU.out]
            exact wstr2_any hW [32] (Lib.itoa n) (by have := HDL.out; omega) (by have := HIL.out; simp; omega)
          clear hcell hn hn64 hil hwi hlt hj
          generalize hIT : strOf (Lib.itoa n) = IT at *
          have KI2 : Hid (Calls Tryz.prog 17 #[.int .i64 n] wr fun e w' => e = .returned (.string IT) ∧ Below wr.heap.size wr w') := Lib.hid (hIT ▸ KI.out)
          clear hIT KI
          go_wp2_with (first | (go_at_call 17; refine KI2.out.mono ?_; rintro _ w7 ⟨rfl, hb7⟩; have HD7 := Lib.hid (HDR.out.keep hb7); have HK7 := Lib.hid (HKR.out.trans (BK.of hb7 (Nat.le_of_lt HDR.out.lt))); clear hb7) | (go_at_call 16; refine (KW.out _ HD7.out).mono ?_; rintro _ w8 ⟨⟨nn, rfl⟩, hd8, hk8⟩; have HD8 := Lib.hid hd8; have HK8 := Lib.hid (HK7.out.trans hk8); clear hd8 hk8))
          exact ⟨⟨j + 1, HLT.out, by first | exact up_val HWI.out | rfl, HD8.out, HK8.out⟩, by first | exact up_end HLT.out HWI.out | (have hh := HLT.out; simp [intOf]; omega)⟩
        · obtain rfl : j = 9 := by omega
          clear hlt hj HN6 HD6 HB6 HNR HNL HKR
          rw [hdT_all] at HDR
          have kb0 : Calls Tryz.prog 18 #[.pointer (some ⟨Bb, 0, none⟩), .int .u8 10] wr fun e w' => e = .returned .nilIface ∧ Bd w' Bb (c.line ++ [10]) ∧ BK Bb wr w' := wbyte_any HDR.out 10 (by have := cfg_len HOK.out; omega)
          have KB0 := Lib.hid kb0
          clear kb0
          go_upto_region 20 with (go_at_call 18; refine KB0.out.mono ?_; rintro _ w5 ⟨rfl, hd5, hk5⟩; have HD5 := Lib.hid hd5; have HB5 := Lib.hid (HBR.out.trans (Below.mono hk5.below (Nat.le_of_lt HWB.out))); clear hd5 hk5)
          clear KB0 HDR HBR
          have HPL : Hid (PS = printL (c.line ++ [10]) l) := Lib.hid (HPS.out.symm.trans (by unfold printS; rw [if_neg (fun h => h HOK.out), if_neg (by have := HLEN.out; have := HSM.out; omega), if_neg (fun h => h HALLK.out)]))
          have HCL := Lib.hid (cfg_len HOK.out)
          clear HPS
          generalize c.line = CL at *
          go_wp2
          go_loopw [74] (fun iv wr => ∃ (i2 : Nat) (out : List UInt8), i2 ≤ i ∧ iv = .int .i64 (i2 : Int) ∧ Bd wr Bb out ∧ out.length ≤ 32768 ∧ PS = printL out (l.drop i2) ∧ Below w.heap.size w wr) (fun iv _ => i - (intOf iv).toNat)
          case atStart => exact ⟨0, CL ++ [10], Nat.zero_le _, rfl, HD5.out, by rw [List.length_append]; have := HCL.out; simp; omega, HPL.out, HB5.out⟩
          case round =>
            obtain ⟨j, out, hj, rfl, hd, hol, hps, hb⟩ := hrel
            have HDR := Lib.hid hd
            have HOL := Lib.hid hol
            have HPR := Lib.hid hps
            have HBR := Lib.hid hb
            clear hd hol hps hb HD5 HB5 HPL
            by_cases hlt : j < i
            · obtain ⟨x, hx⟩ : ∃ x, l[j]? = some x := ⟨l[j]'(by rw [HLEN.out]; exact hlt), List.getElem?_eq_getElem _⟩
              obtain ⟨b, off, rfl, hb, hat, hw6⟩ := HC.out.at_ hx
              obtain ⟨c0, c1, c2, c3, c4⟩ := hat.keep HBR.out hb
              have HWF : Hid x.Wf := Lib.hid ⟨HALLK.out x (List.mem_of_getElem? hx), hw6.2.1, hw6.2.2.1, hw6.2.2.2⟩
              have HPX : Hid (PS = if 4096 < x.text.length ∨ 4096 < x.line.length ∨ 32768 < (out ++ (x.line ++ [10])).length then (232, []) else printL (out ++ (x.line ++ [10])) (l.drop (j + 1))) := Lib.hid (HPR.out.trans (by rw [drop_at hx, printL]))
              have hsz : x.str.size = x.text.length := ba_size x.text
              have HLT := Lib.hid hlt
              have i0 : (0 : Int) ≤ j := by omega
              have i1 : (j : Int) < i := by omega
              have hwi : wrap64 ((j : Int) + 1) = (j : Int) + 1 := by have := HSM.out; unfold wrap64; omega
              have HWI := Lib.hid hwi
              clear hwi hlt hj hat hx hw6
              have kl : x.text.length ≤ 4096 → ∀ W, Below w.heap.size w W → Calls Tryz.prog 19 #[.agg #[.int .i64 x.kind, .int .i64 x.a, .int .i64 x.k, .int .i64 x.x, .string x.str]] W fun e w' => e = .returned (.string (strOf x.line)) ∧ Below W.heap.size W w' := fun ht W hW => sline_any x HWF.out ht W (HA.out W hW)
              have hll : x.text.length ≤ 4096 → x.line.length ≤ 1048576 := fun ht => sline_len HWF.out ht
              generalize x.kind = xd at *
              generalize x.a = xa at *
              generalize x.k = xk at *
              generalize x.x = xx at *
              generalize x.str = XT at *
              generalize x.line = LN at *
              generalize x.text.length = TN at *
              have KL := Lib.hid kl
              clear kl
              go_upto_region 23 with fail
              have HS6 := Lib.hid (Cells.new wr 34 #[.int .i64 xd, .int .i64 xa, .int .i64 xk, .int .i64 xx, .string XT])
              have HD6 := Lib.hid (HDR.out.keep ((Below.refl wr.heap.size wr).alloc (Nat.le_refl _) (.cells #[.int .i64 xd, .int .i64 xa, .int .i64 xk, .int .i64 xx, .string XT] 34)))
              have HB6 := Lib.hid (HBR.out.alloc HBR.out.size (.cells #[.int .i64 xd, .int .i64 xa, .int .i64 xk, .int .i64 xx, .string XT] 34))
              clear c0 c1 c2 c3 c4 HDR HBR
              generalize wr.alloc (.cells #[.int .i64 xd, .int .i64 xa, .int .i64 xk, .int .i64 xx, .string XT] 34) = w6 at *
              generalize wr.heap.size = SB at *
              have s0 : w6.cell? ⟨SB, 0, none⟩ = some (.int .i64 xd) := HS6.out.cell (j := 0) rfl
              have s1 : w6.cell? ⟨SB, 1, none⟩ = some (.int .i64 xa) := HS6.out.cell (j := 1) rfl
              have s2 : w6.cell? ⟨SB, 2, none⟩ = some (.int .i64 xk) := HS6.out.cell (j := 2) rfl
              have s3 : w6.cell? ⟨SB, 3, none⟩ = some (.int .i64 xx) := HS6.out.cell (j := 3) rfl
              have s4 : w6.cell? ⟨SB, 4, none⟩ = some (.string XT) := HS6.out.cell (j := 4) rfl
              by_cases hbt : 4096 < TN
              case pos =>
                have t1 : (4096 : Int) < XT.size := by omega
                have HE0 : Hid (PS = (232, [])) := Lib.hid (HPX.out.trans (if_pos (.inl hbt)))
                clear hbt hsz hll
                go_wp2
                go_ret2
                exact ⟨by rw [HE0.out]; rfl, HB6.out⟩
              have t1 : ¬ (4096 : Int) < XT.size := by omega
              have KL2 := Lib.hid (KL.out (by omega))
              have hll2 := hll (by omega)
              have HBT := Lib.hid hbt
              clear hll KL hbt hsz
              go_upto_region 26 with (go_at_call 19; refine (KL2.out _ HB6.out).mono ?_; rintro _ w7 ⟨rfl, hb7⟩; have HD7 := Lib.hid (HD6.out.keep hb7); have HB7 := Lib.hid (grow_to HB6.out hb7); clear hb7)
              clear s0 s1 s2 s3 s4 t1 HS6 HD6 HB6 KL2
              have HKS : Hid (∀ W, Bd W Bb out → Calls Tryz.prog 16 #[.pointer (some ⟨Bb, 0, none⟩), .string (strOf LN ++ { data := #[10] })] W fun e w' => (∃ n, e = .returned (.tuple #[.int .i64 n, .nilIface])) ∧ Bd w' Bb (out ++ (LN ++ [10])) ∧ BK Bb W w') := Lib.hid fun W hW => by
                have k := wstr_any hW (LN ++ [10]) (by have := HOL.out; rw [List.length_append]; simp; omega)
                rw [strOf_app] at k
                exact k.mono fun e w' h => ⟨⟨_, h.1⟩, h.2.1, h.2.2⟩
              have hsz : (strOf LN).size = LN.length := ba_size LN
              have HBL : Hid (∀ W, Bd W Bb (out ++ (LN ++ [10])) → Calls Tryz.prog 20 #[.pointer (some ⟨Bb, 0, none⟩)] W fun e w' => e = .returned (.int .i64 ((out ++ (LN ++ [10])).length : Nat)) ∧ w' = W) := Lib.hid fun W hW => blen_any hW
              have z1 : ¬ 9223372036854775807 < (strOf LN).size + (ByteArray.mk #[10]).size := by rw [show (ByteArray.mk #[10]).size = 1 from rfl]; omega
              generalize out ++ (LN ++ [10]) = out2 at *
              generalize LN.length = NL at *
              generalize strOf LN = LS at *
              go_upto_region 27 with (go_at_call 16; refine (HKS.out _ HD7.out).mono ?_; rintro _ w8 ⟨⟨nn, rfl⟩, hd8, hk8⟩; have HD8 := Lib.hid hd8; have HB8 := Lib.hid (HB7.out.trans (Below.mono hk8.below (Nat.le_of_lt HWB.out))); clear hd8 hk8)
              clear HKS z1 HD7 HB7 hll2
              have HKL := Lib.hid (HBL.out _ HD8.out)
              clear HBL
              by_cases hbl : 4096 < NL
              case pos =>
                have t1 : (4096 : Int) < LS.size := by omega
                have HE0 : Hid (PS = (232, [])) := Lib.hid (HPX.out.trans (if_pos (.inr (.inl hbl))))
                clear hbl hsz
                go_wp2
                go_ret2
                exact ⟨by rw [HE0.out]; rfl, HB8.out⟩
              have t1 : ¬ (4096 : Int) < LS.size := by omega
              have HBL1 := Lib.hid hbl
              clear hbl hsz
              by_cases htot : 32768 < out2.length
              case pos =>
                have t2 : (32768 : Int) < (out2.length : Nat) := by omega
                have HE0 : Hid (PS = (232, [])) := Lib.hid (HPX.out.trans (if_pos (.inr (.inr htot))))
                clear htot
                go_wp2_with (go_at_call 20; refine HKL.out.mono ?_; rintro _ _ ⟨rfl, rfl⟩)
                go_ret2
                exact ⟨by rw [HE0.out]; rfl, HB8.out⟩
              have t2 : ¬ (32768 : Int) < (out2.length : Nat) := by omega
              have HE0 : Hid (PS = printL out2 (l.drop (j + 1))) := Lib.hid (HPX.out.trans (if_neg (by have := HBT.out; have := HBL1.out; omega)))
              have HTOT := Lib.hid htot
              clear htot
              go_wp2_with (go_at_call 20; refine HKL.out.mono ?_; rintro _ _ ⟨rfl, rfl⟩)
              exact ⟨⟨j + 1, out2, HLT.out, by first | exact up_val HWI.out | rfl, HD8.out, by have := HTOT.out; omega, HE0.out, HB8.out⟩, by first | exact up_end HLT.out HWI.out | (have hh := HLT.out; simp [intOf]; omega)⟩
            · obtain rfl : j = i := by omega
              have i1 : ¬ (j : Int) < j := by omega
              have HE0 : Hid (PS = (0, out)) := Lib.hid (HPR.out.trans (by rw [List.drop_eq_nil_of_le (by rw [HLEN.out]; exact Nat.le_refl _), printL]))
              have HBS := Lib.hid (bstr_any HDR.out)
              clear hlt hj
              go_wp2_with (go_at_call 21; refine HBS.out.mono ?_; rintro _ w8 ⟨rfl, hk8⟩; have HB8 := Lib.hid (HBR.out.trans (Below.mono hk8.below (Nat.le_of_lt HWB.out))); clear hk8)
              go_ret2
              exact ⟨by rw [HE0.out]; rfl, HB8.out⟩
end Go.Proofs.YtdkencepmdfacaaGreatDoor
