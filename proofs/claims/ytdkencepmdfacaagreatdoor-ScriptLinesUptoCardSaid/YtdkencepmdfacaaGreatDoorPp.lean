/- prog.Print (contract). -/
import Derived.Test.YtdkencepmdfacaaGreatDoorPc
import Derived.Test.YtdkencepmdfacaaGreatDoorPw
import Derived.Test.YtdkencepmdfacaaGreatDoorQd
import Derived.Test.YtdkencepmdfacaaGreatDoorGr8
set_option maxRecDepth 100000
namespace Go.Proofs.YtdkencepmdfacaaGreatDoor
open Go.RowKit Ieee

theorem opWord_text {o : Nat} (h : o < 25) : opWord o = opText o := by
  have key : ∀ o : Fin 25, opWord o.val = opText o.val := by decide +kernel
  exact key ⟨o, h⟩
theorem itoa_nat (n : Nat) : Lib.itoa (n : Int) = Lib.decDigits n := by
  unfold Lib.itoa
  rw [if_neg (by omega), Int.toNat_natCast]
theorem strOf_app (a b : List UInt8) : strOf (a ++ b) = strOf a ++ strOf b := ByteArray.ext (by simp)
theorem strOf_size (l : List UInt8) : (strOf l).size = l.length := ba_size l
/-- strconv.Itoa of a number that is not negative -/
theorem itoaN_any {n : Nat} (h : n < 1000000000) (W : World) (hT : TabsAt W) : Calls Tryz.prog 17 #[.int .i64 (n : Nat)] W fun e w' => e = .returned (.string (strOf (Lib.decDigits n))) ∧ Below W.heap.size W w' := by
  have k := itoa_is (n := (n : Int)) (by omega) (by omega) W hT
  rw [itoa_nat] at k
  exact k
/-- a write of a text in two pieces -/
theorem wstr2_any {W : World} {b : Nat} {L : List UInt8} (h : Bd W b L) (p q : List UInt8) (h1 : L.length ≤ 5000) (h2 : p.length + q.length ≤ 1000) :
    Calls Tryz.prog 16 #[.pointer (some ⟨b, 0, none⟩), .string (strOf p ++ strOf q)] W fun e w' => (∃ n, e = .returned (.tuple #[.int .i64 n, .nilIface])) ∧ Bd w' b (L ++ (p ++ q)) ∧ BK b W w' := by
  have k := wstr_any h (p ++ q) (by rw [List.length_append]; omega)
  rw [strOf_app] at k
  exact k.mono fun e w' hh => ⟨⟨_, hh.1⟩, hh.2⟩

set_option maxHeartbeats 4000000 in
set_option maxRecDepth 100000 in
theorem print_any (fuel : Int) (A : Option Addr) (l : List Ins) (cap : Nat) (w : World) (hC : CodeIn w w.heap.size A l) (hk : ∀ x ∈ l, x.k < 2 * signB) (hT : TabsAt w) :
    Calls Tryz.prog 38 #[.agg #[.int .i64 fuel, .slice A l.length cap]] w fun e w' => e = .returned (.tuple #[.string (if (progCheck fuel l).1 = 0 then strOf (progText fuel.toNat l) else ⟨#[]⟩), .int .i64 (progCheck fuel l).1]) ∧ Below w.heap.size w w' := by
  have HX := Lib.hid (Cells.new w 71 #[.int .i64 fuel, .slice A l.length cap])
  have HB := Lib.hid ((Below.refl w.heap.size w).alloc (Nat.le_refl _) (.cells #[.int .i64 fuel, .slice A l.length cap] 71))
  have hck := check_any fuel A l cap (w.alloc (.cells #[.int .i64 fuel, .slice A l.length cap] 71)) ((hC.keep HB.out).more HB.out.size)
  have HTA : Hid (∀ W, Below w.heap.size w W → TabsAt W) := Lib.hid fun W hW => tabs_keep hW hT
  by_cases h0 : (progCheck fuel l).1 = 0
  case neg =>
    rw [if_neg h0]
    have t1 : ((progCheck fuel l).1 == 0) = false := by rw [beq_eq_false_iff_ne]; exact h0
    have t2 : ((progCheck fuel l).1 != 0) = true := by simp [bne, t1]
    have HCK := Lib.hid hck
    clear hck h0
    generalize (progCheck fuel l).1 = er at *
    generalize (progCheck fuel l).2 = at_ at *
    generalize l.length = len at *
    go_enter Tryz.func38, Tryz.ntmps38
    go_wp2_with fail
    refine HCK.out.mono ?_
    rintro _ w1 ⟨rfl, hb1⟩
    have HB1 := Lib.hid (grow_to HB.out hb1)
    clear hb1
    go_wp2
    go_ret2
    exact ⟨rfl, HB1.out⟩
  rw [if_pos h0, h0]
  rw [h0] at hck
  obtain ⟨hf, hl1, hl2⟩ := prog_range h0
  obtain ⟨fn, rfl⟩ := Int.eq_ofNat_of_zero_le (show 0 ≤ fuel by omega)
  have HFULL := Lib.hid (prog_full h0 hk)
  have HLE := Lib.hid (headT_le (fuel := fn) (by omega) hl2 fun x hx => ⟨(HFULL.out x hx).1, by have := (HFULL.out x hx).2; omega⟩)
  have HCC := Lib.hid hC
  have HCK := Lib.hid hck
  clear hck h0 hk hC hT
  rw [show ((fn : Int).toNat) = fn from Int.toNat_natCast fn, ← headT_all l.length (Nat.le_refl _)]
  have HS0 := Lib.hid (headT_zero fn l)
  obtain ⟨HD, hHD⟩ : ∃ HD, headT fn l = HD := ⟨_, rfl⟩
  have HSU : Hid (∀ (g : Nat) (x : Ins), l[g]? = some x → HD (g + 1) = HD g ++ (x.line ++ [10])) := Lib.hid fun g x hx => hHD ▸ headT_succ hx
  rw [hHD] at HS0 HLE ⊢
  clear hHD
  generalize (progCheck fn l).2 = at_ at *
  generalize hlen : l.length = len at *
  have HLEN := Lib.hid hlen
  clear hlen
  have hfd : (Lib.decDigits fn).length ≤ 4 := dec_len (k := 3) (by omega)
  have kI := fun W hW => itoaN_any (n := fn) (by omega) W hW
  have kW : ∀ (W : World) (b : Nat), Bd W b [] → Calls Tryz.prog 16 #[.pointer (some ⟨b, 0, none⟩), .string ({ data := #[102, 117, 101, 108, 32] } ++ strOf (Lib.decDigits fn) ++ { data := #[10] })] W fun e w' => (∃ n, e = .returned (.tuple #[.int .i64 n, .nilIface])) ∧ Bd w' b (HD 0) ∧ BK b W w' := fun W b hb => by
    have k := wstr2_any hb (fuelW ++ Lib.decDigits fn) [10] (by simp) (by rw [List.length_append]; have : fuelW.length = 5 := rfl; simp; omega)
    rw [strOf_app, ← HS0.out] at k
    exact k
  have s1 : (strOf (Lib.decDigits fn)).size ≤ 4 := by rw [strOf_size]; exact hfd
  clear hfd HS0
  generalize strOf (Lib.decDigits fn) = S1 at *
  have HKW := Lib.hid kW
  clear kW
  go_enter Tryz.func38, Tryz.ntmps38
  go_upto_region 4 with (go_at_call 66; go_loud (refine HCK.out.mono ?_); rintro _ w1 ⟨rfl, hb1⟩; have HB1 := Lib.hid (grow_to HB.out hb1); have HX1 := Lib.hid (HX.out.keep hb1); clear hb1)
  clear HB HX HCK
  go_upto_region 5 with fail
  have HBd2 := Lib.hid (Bd.new w1)
  have HB2 := Lib.hid (HB1.out.alloc HB1.out.size (.cells #[.pointer none, .slice none 0 0] 45))
  have HX2 := Lib.hid (HX1.out.alloc (.cells #[.pointer none, .slice none 0 0] 45))
  have HWB := Lib.hid (show w.heap.size < w1.heap.size from HX1.out.lt)
  clear HB1 HX1
  generalize w1.alloc (.cells #[.pointer none, .slice none 0 0] 45) = w2 at *
  generalize w1.heap.size = Bb at *
  clear w1
  have p0 : w2.cell? ⟨w.heap.size, 0, none⟩ = some (.int .i64 (fn : Nat)) := HX2.out.cell (j := 0) rfl
  have ki := kI w2 (HTA.out _ HB2.out)
  have z1 : ¬ 9223372036854775807 < (ByteArray.mk #[102, 117, 101, 108, 32]).size + S1.size := by rw [show (ByteArray.mk #[102, 117, 101, 108, 32]).size = 5 from rfl]; omega
  have z2 : ¬ 9223372036854775807 < ((ByteArray.mk #[102, 117, 101, 108, 32]) ++ S1).size + (ByteArray.mk #[10]).size := by rw [ByteArray.size_append, show (ByteArray.mk #[102, 117, 101, 108, 32]).size = 5 from rfl, show (ByteArray.mk #[10]).size = 1 from rfl]; omega
  clear kI
  go_upto_region 6 with (first | (go_at_call 17; refine ki.mono ?_; rintro _ w3 ⟨rfl, hb3⟩; have HBd3 := Lib.hid (HBd2.out.keep hb3); have HX3 := Lib.hid (HX2.out.keep hb3); have HB3 := Lib.hid (grow_to HB2.out hb3); clear hb3) | (go_at_call 16; refine (HKW.out _ _ HBd3.out).mono ?_; rintro _ w4 ⟨⟨nn, rfl⟩, hd4, hk4⟩; have HBd4 := Lib.hid hd4; have HX4 := Lib.hid (HX3.out.bk hk4 (Nat.ne_of_lt HWB.out) (by decide)); have HB4 := Lib.hid (HB3.out.trans (Below.mono hk4.below (Nat.le_of_lt HWB.out))); clear hd4 hk4))
  clear HBd2 HX2 HB2 HBd3 HX3 HB3 p0 ki z1 z2 HKW s1
  clear w2 w3
  have p1 : w4.cell? ⟨w.heap.size, 1, none⟩ = some (.slice A len cap) := HX4.out.cell (j := 1) rfl
  go_wp2
  clear p1
  go_loopw [29] (fun iv wr => ∃ g : Nat, g ≤ len ∧ iv = .int .i64 (g : Int) ∧ Bd wr Bb (HD g) ∧ Below w.heap.size w wr) (fun iv _ => len - (intOf iv).toNat)
  case atStart => exact ⟨0, Nat.zero_le _, rfl, HBd4.out, HB4.out⟩
  case round =>
    obtain ⟨g, hg, rfl, hd, hB⟩ := hrel
    have HBR := Lib.hid hB
    have HBDR := Lib.hid hd
    clear hB hd HX4 HB4 HBd4
    by_cases hlt : g < len
    · obtain ⟨x, hx⟩ : ∃ x, l[g]? = some x := ⟨l[g]'(by rw [HLEN.out]; exact hlt), List.getElem?_eq_getElem _⟩
      have HF := Lib.hid (HFULL.out x (List.mem_of_getElem? hx))
      obtain ⟨b, off, rfl, hb, hc⟩ := HCC.out (by rw [HLEN.out]; omega)
      obtain ⟨c0, c1, c2, c3, c4, c5⟩ := ((hc g x hx).1.keep HBR.out hb)
      have HSUX := Lib.hid (HSU.out g x hx)
      have HL1 := Lib.hid (HLE.out g)
      have HL2 := Lib.hid (HLE.out (g + 1))
      clear hc hx HCC HSU HFULL HLEN HLE
      have i0 : (0 : Int) ≤ g := by omega
      have i1 : (g : Int) < len := by omega
      obtain ⟨o, r, n, v, e0, e1, e2, e3, e4, o1, o2, er, r3, n64, hv, hk, eB, eT⟩ := ins_told HF.out.1 HF.out.2 hl2
      have HSU : Hid (HD (g + 1) = HD g ++ (opText o ++ (regT v r ++ tailT (opN (o : Int)) (opK (o : Int)) n x.k) ++ [10])) := Lib.hid (by rw [HSUX.out, line_told e0 e1 e2 e3 e4 er r3])
      have HNK := Lib.hid (nk_not (o : Int))
      rw [e0] at c0
      rw [e1] at c1
      rw [e2] at c2
      rw [e3] at c3
      rw [e4] at c4
      clear HSUX e0 e1 e2 e3 e4 eB eT HF
      generalize x.k = k at *
      clear x
      have HFC : Hid (formCells o = [.string (strOf (opText o)), .int .i64 (r : Nat), .bool (opN o), .bool (opK o)]) := Lib.hid (by unfold formCells; rw [er, opWord_text o2])
      clear er
      generalize opN (o : Int) = bn at *
      generalize opK (o : Int) = bk at *
      obtain ⟨LW, hLW⟩ : ∃ LW, opText o = LW := ⟨_, rfl⟩
      have hwl : LW.length ≤ 5 := hLW ▸ opText_len o
      rw [hLW] at HSU HFC
      clear hLW
      have HKWD : Hid (∀ W, Bd W Bb (HD g) → Calls Tryz.prog 16 #[.pointer (some ⟨Bb, 0, none⟩), .string (strOf LW)] W fun e w' => (∃ n, e = .returned (.tuple #[.int .i64 n, .nilIface])) ∧ Bd w' Bb (HD g ++ LW) ∧ BK Bb W w') := Lib.hid fun W hW => (wstr_any hW LW (by have := HL1.out; omega)).mono fun e w' hh => ⟨⟨_, hh.1⟩, hh.2⟩
      have HKV : Hid (∀ i W, TabsAt W → Calls Tryz.prog 17 #[.int .i64 (v i : Nat)] W fun e w' => e = .returned (.string (strOf (Lib.decDigits (v i)))) ∧ Below W.heap.size W w') := Lib.hid fun i W hW => itoaN_any (n := v i) (by have := hv i; omega) W hW
      have HKVW : Hid (∀ i, i ≤ r → ∀ W, Bd W Bb (HD g ++ LW ++ regT v i) → Calls Tryz.prog 16 #[.pointer (some ⟨Bb, 0, none⟩), .string ({ data := #[32, 114] } ++ strOf (Lib.decDigits (v i)))] W fun e w' => (∃ n, e = .returned (.tuple #[.int .i64 n, .nilIface])) ∧ Bd w' Bb (HD g ++ LW ++ regT v (i + 1)) ∧ BK Bb W w') := Lib.hid fun i hi W hW => by
        have h1 := dec_len (n := v i) (k := 0) (by have := hv i; omega)
        have h2 := regT_le hv i
        have h3 := HL1.out
        have k := wstr2_any hW [32, 114] (Lib.decDigits (v i)) (by rw [List.length_append, List.length_append]; omega) (by simp only [List.length_cons, List.length_nil]; omega)
        rw [regT_succ, ← List.append_assoc]
        exact k
      have HVS : Hid (∀ i, (strOf (Lib.decDigits (v i))).size ≤ 1) := Lib.hid fun i => by rw [strOf_size]; exact dec_len (k := 0) (by have := hv i; omega)
      have HRL : Hid ((HD g ++ LW ++ regT v r).length ≤ 4100) := Lib.hid (by
        have h2 := regT_le hv r
        have h3 := HL1.out
        rw [List.length_append, List.length_append]; omega)
      obtain ⟨RT, hRT⟩ : ∃ RT, regT v = RT := ⟨_, rfl⟩
      have HR0 : Hid (RT 0 = []) := Lib.hid (hRT ▸ regT_zero v)
      rw [hRT] at HSU HKVW HRL
      clear hRT
      have HKN : Hid (∀ W, TabsAt W → Calls Tryz.prog 17 #[.int .i64 (n : Nat)] W fun e w' => e = .returned (.string (strOf (Lib.decDigits n))) ∧ Below W.heap.size W w') := Lib.hid fun W hW => itoaN_any (n := n) (by omega) W hW
      have HKK : Hid (∀ W, TabsAt W → Calls Tryz.prog 67 #[.int .u64 (k : Nat)] W fun e w' => e = .returned (.string (strOf (ftext k))) ∧ Below W.heap.size W w') := Lib.hid fun W hW => text_any (a := k) (by unfold signB; omega) W hW
      have sn : (strOf (Lib.decDigits n)).size ≤ 2 := by rw [strOf_size]; exact dec_len (k := 1) (by omega)
      have sk : (strOf (ftext k)).size ≤ 32 := by rw [strOf_size]; exact ftext_len32 k
      have HKNW : Hid (∀ W L, L.length ≤ 4100 → Bd W Bb L → Calls Tryz.prog 16 #[.pointer (some ⟨Bb, 0, none⟩), .string ({ data := #[32] } ++ strOf (Lib.decDigits n))] W fun e w' => (∃ n, e = .returned (.tuple #[.int .i64 n, .nilIface])) ∧ Bd w' Bb (L ++ (32 :: Lib.decDigits n)) ∧ BK Bb W w') := Lib.hid fun W L hL hW => wstr2_any hW [32] (Lib.decDigits n) (by omega) (by have := dec_len (n := n) (k := 1) (by omega); simp only [List.length_cons, List.length_nil]; omega)
      have HKKW : Hid (∀ W L, L.length ≤ 4100 → Bd W Bb L → Calls Tryz.prog 16 #[.pointer (some ⟨Bb, 0, none⟩), .string ({ data := #[32] } ++ strOf (ftext k))] W fun e w' => (∃ n, e = .returned (.tuple #[.int .i64 n, .nilIface])) ∧ Bd w' Bb (L ++ (32 :: ftext k)) ∧ BK Bb W w') := Lib.hid fun W L hL hW => wstr2_any hW [32] (ftext k) (by omega) (by have := ftext_len32 k; simp only [List.length_cons, List.length_nil]; omega)
      have HKB : Hid (∀ W L, L.length ≤ 5000 → Bd W Bb L → Calls Tryz.prog 18 #[.pointer (some ⟨Bb, 0, none⟩), .int .u8 10] W fun e w' => e = .returned .nilIface ∧ Bd w' Bb (L ++ [10]) ∧ BK Bb W w') := Lib.hid fun W L hL hW => wbyte_any hW 10 (by omega)
      have HTL : Hid (∀ bn bk, (tailT bn bk n k).length ≤ 36) := Lib.hid fun bn bk => tailT_le n64
      have HTT : Hid (tailT true false n k = (32 :: Lib.decDigits n) ∧ tailT false true n k = (32 :: ftext k) ∧ tailT false false n k = []) := Lib.hid ⟨by simp [tailT], by simp [tailT], by simp [tailT]⟩
      generalize strOf LW = Wd at *
      generalize 32 :: Lib.decDigits n = LN at *
      generalize 32 :: ftext k = LK at *
      generalize strOf (Lib.decDigits n) = Sn at *
      generalize strOf (ftext k) = Sk at *
      obtain ⟨sv, hsv⟩ : ∃ sv : Nat → ByteArray, (fun i => strOf (Lib.decDigits (v i))) = sv := ⟨_, rfl⟩
      replace HVS : Hid (∀ i, (sv i).size ≤ 1) := Lib.hid (hsv ▸ HVS.out)
      replace HKV : Hid (∀ i W, TabsAt W → Calls Tryz.prog 17 #[.int .i64 (v i : Nat)] W fun e w' => e = .returned (.string (sv i)) ∧ Below W.heap.size W w') := Lib.hid (hsv ▸ HKV.out)
      replace HKVW : Hid (∀ i, i ≤ r → ∀ W, Bd W Bb (HD g ++ LW ++ RT i) → Calls Tryz.prog 16 #[.pointer (some ⟨Bb, 0, none⟩), .string ({ data := #[32, 114] } ++ sv i)] W fun e w' => (∃ n, e = .returned (.tuple #[.int .i64 n, .nilIface])) ∧ Bd w' Bb (HD g ++ LW ++ RT (i + 1)) ∧ BK Bb W w') := Lib.hid (hsv ▸ HKVW.out)
      clear hsv hv hk hwl HL1 HL2
      have HO2 := Lib.hid o2
      go_upto_region 9 with fail
      have HI3 := Lib.hid (Cells.new wr 102 #[.int .i64 (o : Nat), .int .i64 (v 0 : Nat), .int .i64 (v 1 : Nat), .int .i64 (v 2 : Nat), .int .i64 (n : Nat), .int .u64 (k : Nat)])
      have HB3 := Lib.hid (HBR.out.alloc HBR.out.size (.cells #[.int .i64 (o : Nat), .int .i64 (v 0 : Nat), .int .i64 (v 1 : Nat), .int .i64 (v 2 : Nat), .int .i64 (n : Nat), .int .u64 (k : Nat)] 102))
      have HD3 := Lib.hid (HBDR.out.keep ((Below.refl wr.heap.size wr).alloc (Nat.le_refl _) (.cells #[.int .i64 (o : Nat), .int .i64 (v 0 : Nat), .int .i64 (v 1 : Nat), .int .i64 (v 2 : Nat), .int .i64 (n : Nat), .int .u64 (k : Nat)] 102)))
      have HBG := Lib.hid HBDR.out.lt
      clear HBR HBDR c0 c1 c2 c3 c4 c5
      generalize wr.alloc (.cells #[.int .i64 (o : Nat), .int .i64 (v 0 : Nat), .int .i64 (v 1 : Nat), .int .i64 (v 2 : Nat), .int .i64 (n : Nat), .int .u64 (k : Nat)] 102) = w3 at *
      generalize wr.heap.size = Gx at *
      clear wr
      go_cut [9] (fun s9 wx => ∃ b5, s9 = .pointer (some ⟨b5, 0, none⟩) ∧ w3.heap.size ≤ b5 ∧ Cells wx b5 104 (formCells o).toArray ∧ Below w3.heap.size w3 wx)
      case first =>
        clear HSU HKWD HKV HKVW HVS HRL HR0 HKN HKK sn sk HKNW HKKW HKB HTL HTT
        have hi0 : (0 : Int) ≤ o := by omega
        have hi1 : (o : Int) < 25 := by omega
        have y0 : w3.cell? ⟨Gx, 0, none⟩ = some (.int .i64 (o : Int)) := HI3.out.cell (j := 0) rfl
        have y0d : w3.drew.cell? ⟨Gx, 0, none⟩ = some (.int .i64 (o : Int)) := y0
        have y0a : ∀ Z, (w3.alloc Z).cell? ⟨Gx, 0, none⟩ = some (.int .i64 (o : Int)) := fun Z => (HI3.out.alloc Z).cell (j := 0) rfl
        have y0ad : ∀ Z, (w3.alloc Z).drew.cell? ⟨Gx, 0, none⟩ = some (.int .i64 (o : Int)) := y0a
        refine wp_region_held_drew (S := fun w' => w'.cell? ⟨Gx, 0, none⟩ = some (.int .i64 (o : Int))) (by kernel_rfl) y0 (fun hS => ?_)
        refine wpAnyH_take (i := 1) (v := ?_) rfl (by kernel_rfl) (by kernel_rfl) (by kernel_rfl) (fun _ _ _ h => h) (Or.inl ⟨by rfl, ?_⟩) hS ?_
        rotate_left
        · (intro wx hSx; (try dsimp only at hSx); go_simp; (try with_reducible rfl))
        simp only [List.getElem_toArray, List.getElem_cons_succ, List.getElem_cons_zero, Act.put, List.setIfInBounds_toArray, List.set_cons_zero, List.set_cons_succ]
        refine wpAnyH_take (i := 2) (v := ?_) rfl (by kernel_rfl) (by kernel_rfl) (by kernel_rfl) (fun _ _ _ h => h) (Or.inl ⟨by rfl, ?_⟩) hS ?_
        rotate_left
        · (intro wx hSx; (try dsimp only at hSx); go_simp; (try with_reducible rfl))
        simp only [List.getElem_toArray, List.getElem_cons_succ, List.getElem_cons_zero, Act.put, List.setIfInBounds_toArray, List.set_cons_zero, List.set_cons_succ]
        refine wpAnyH_ready (rs := [0, 5]) (by kernel_rfl) (by simp) ?_
        refine AllReadyH.cons rfl (fun K hK => ?_) (AllReadyH.cons rfl (fun K hK => ?_) AllReadyH.nil)
        · go_simp
          go_at_call 63
          refine (forms_in _).mono ?_
          rintro _ wq ⟨bq, rfl, hlq, hFq, hBq⟩
          have HXq := Lib.hid (show Cells wq Gx 102 #[.int .i64 (o : Nat), .int .i64 (v 0 : Nat), .int .i64 (v 1 : Nat), .int .i64 (v 2 : Nat), .int .i64 (n : Nat), .int .u64 (k : Nat)] from by first | exact Cells.keep HI3.out.drew hBq | exact Cells.keep (HI3.out.alloc _).drew hBq | exact Cells.keep (HI3.out.drew.alloc _).drew hBq)
          have xq : wq.cell? ⟨Gx, 0, none⟩ = some (.int .i64 (o : Int)) := HXq.out.cell (j := 0) rfl
          have xqa : ∀ Z, (wq.alloc Z).cell? ⟨Gx, 0, none⟩ = some (.int .i64 (o : Int)) := fun Z => (HXq.out.alloc Z).cell (j := 0) rfl
          have xqs : ∀ e1 e2 e3 e4, ((((wq.setCell ⟨w3.heap.size, 0, none⟩ e1).setCell ⟨w3.heap.size, 1, none⟩ e2).setCell ⟨w3.heap.size, 2, none⟩ e3).setCell ⟨w3.heap.size, 3, none⟩ e4).cell? ⟨Gx, 0, none⟩ = some (.int .i64 (o : Int)) := fun e1 e2 e3 e4 => ((((HXq.out.far (a := ⟨w3.heap.size, 0, none⟩) (Nat.ne_of_lt HI3.out.lt) e1).far (a := ⟨w3.heap.size, 1, none⟩) (Nat.ne_of_lt HI3.out.lt) e2).far (a := ⟨w3.heap.size, 2, none⟩) (Nat.ne_of_lt HI3.out.lt) e3).far (a := ⟨w3.heap.size, 3, none⟩) (Nat.ne_of_lt HI3.out.lt) e4).cell (j := 0) rfl
          obtain ⟨q0, q1, q2, q3⟩ := forms_at hFq o2
          have r0 := fun Z => (forms_at (hFq.alloc Z) o2).1
          have r1 := fun Z => (forms_at (hFq.alloc Z) o2).2.1
          have r2 := fun Z => (forms_at (hFq.alloc Z) o2).2.2.1
          have r3 := fun Z => (forms_at (hFq.alloc Z) o2).2.2.2
          try (have HZq := Lib.hid (show Cells wq w3.heap.size 104 #[.string ⟨#[]⟩, .int .i64 0, .bool false, .bool false] from Cells.keep (Cells.new w3 _ _).drew hBq); have z0 := HZq.out.cell (j := 0) rfl; have z1 := HZq.out.cell (j := 1) rfl; have z2 := HZq.out.cell (j := 2) rfl; have z3 := HZq.out.cell (j := 3) rfl; have f0 := HZq.out.fz 0; have f1 := HZq.out.fz 1; have f2 := HZq.out.fz 2; have f3 := HZq.out.fz 3)
          have HBw := Lib.hid (show Below w3.heap.size w3 wq from by first | exact grow_to (Below.refl _ w3).drew hBq | exact grow_to ((Below.refl _ w3).alloc (Nat.le_refl _) _).drew hBq)
          have HFq := Lib.hid hFq
          have HBq := Lib.hid hBq
          have HLq := Lib.hid hlq
          clear hFq hBq hlq
          refine hK.out _ _ (by first | with_reducible exact y0 | with_reducible exact y0d | with_reducible exact y0a _ | with_reducible exact y0ad _ | with_reducible exact xq | with_reducible exact xqa _ | with_reducible exact xqs _ _ _ _) (fun hS => ?_)
          clear hK K
          try simp only [Act.put, List.setIfInBounds_toArray, List.set_cons_zero, List.set_cons_succ]
          refine wpAnyH_take (i := 3) (v := ?_) rfl (by kernel_rfl) (by kernel_rfl) (by kernel_rfl) (fun _ _ _ h => h) (Or.inl ⟨by rfl, ?_⟩) hS ?_
          rotate_left
          · (intro wx hSx; (try dsimp only at hSx); go_simp; (try with_reducible rfl))
          simp only [List.getElem_toArray, List.getElem_cons_succ, List.getElem_cons_zero, Act.put, List.setIfInBounds_toArray, List.set_cons_zero, List.set_cons_succ]
          refine wpAnyH_ready (rs := [4, 5]) (by kernel_rfl) (by simp) ?_
          refine AllReadyH.cons rfl (fun K hK => ?_) (AllReadyH.cons rfl (fun K hK => ?_) AllReadyH.nil)
          · go_simp
            refine hK.out _ _ (by first | with_reducible exact y0 | with_reducible exact y0d | with_reducible exact y0a _ | with_reducible exact y0ad _ | with_reducible exact xq | with_reducible exact xqa _ | with_reducible exact xqs _ _ _ _) (fun hS => ?_)
            clear hK K
            try simp only [Act.put, List.setIfInBounds_toArray, List.set_cons_zero, List.set_cons_succ]
            refine wpAnyH_ready (rs := [5]) (by kernel_rfl) (by simp) ?_
            refine AllReadyH.cons rfl (fun K hK => ?_) AllReadyH.nil
            go_simp
            refine hK.out _ _ (by first | with_reducible exact y0 | with_reducible exact y0d | with_reducible exact y0a _ | with_reducible exact y0ad _ | with_reducible exact xq | with_reducible exact xqa _ | with_reducible exact xqs _ _ _ _) (fun hS => ?_)
            clear hK K
            try simp only [Act.put, List.setIfInBounds_toArray, List.set_cons_zero, List.set_cons_succ]
            refine wpAnyH_ready (rs := [6]) (by kernel_rfl) (by simp) ?_
            refine AllReadyH.cons rfl (fun K hK => ?_) AllReadyH.nil
            go_simp
            refine hK.out _ _ (by first | with_reducible exact y0 | with_reducible exact y0d | with_reducible exact y0a _ | with_reducible exact y0ad _ | with_reducible exact xq | with_reducible exact xqa _ | with_reducible exact xqs _ _ _ _) (fun hS => ?_)
            clear hK K
            try simp only [Act.put, List.setIfInBounds_toArray, List.set_cons_zero, List.set_cons_succ]
            refine wpAnyH_done (by kernel_rfl) ?_ _
            go_wp2_with fail
            go_meet
            first
              | exact ⟨_, rfl, HBw.out.size, Cells.new _ _ _, HBw.out.alloc HBw.out.size _⟩
              | exact ⟨_, rfl, Nat.le_refl _, (form_end HZq.out HXq.out HI3.out.lt HBw.out (Nat.le_refl _)).1, (form_end HZq.out HXq.out HI3.out.lt HBw.out (Nat.le_refl _)).2.2⟩
          · go_simp
            refine hK.out _ _ (by first | with_reducible exact y0 | with_reducible exact y0d | with_reducible exact y0a _ | with_reducible exact y0ad _ | with_reducible exact xq | with_reducible exact xqa _ | with_reducible exact xqs _ _ _ _) (fun hS => ?_)
            clear hK K
            try simp only [Act.put, List.setIfInBounds_toArray, List.set_cons_zero, List.set_cons_succ]
            refine wpAnyH_ready (rs := [4]) (by kernel_rfl) (by simp) ?_
            refine AllReadyH.cons rfl (fun K hK => ?_) AllReadyH.nil
            go_simp
            refine hK.out _ _ (by first | with_reducible exact y0 | with_reducible exact y0d | with_reducible exact y0a _ | with_reducible exact y0ad _ | with_reducible exact xq | with_reducible exact xqa _ | with_reducible exact xqs _ _ _ _) (fun hS => ?_)
            clear hK K
            try simp only [Act.put, List.setIfInBounds_toArray, List.set_cons_zero, List.set_cons_succ]
            refine wpAnyH_ready (rs := [6]) (by kernel_rfl) (by simp) ?_
            refine AllReadyH.cons rfl (fun K hK => ?_) AllReadyH.nil
            go_simp
            refine hK.out _ _ (by first | with_reducible exact y0 | with_reducible exact y0d | with_reducible exact y0a _ | with_reducible exact y0ad _ | with_reducible exact xq | with_reducible exact xqa _ | with_reducible exact xqs _ _ _ _) (fun hS => ?_)
            clear hK K
            try simp only [Act.put, List.setIfInBounds_toArray, List.set_cons_zero, List.set_cons_succ]
            refine wpAnyH_done (by kernel_rfl) ?_ _
            go_wp2_with fail
            go_meet
            first
              | exact ⟨_, rfl, HBw.out.size, Cells.new _ _ _, HBw.out.alloc HBw.out.size _⟩
              | exact ⟨_, rfl, Nat.le_refl _, (form_end HZq.out HXq.out HI3.out.lt HBw.out (Nat.le_refl _)).1, (form_end HZq.out HXq.out HI3.out.lt HBw.out (Nat.le_refl _)).2.2⟩
        · go_simp
          refine hK.out _ _ (by first | with_reducible exact y0 | with_reducible exact y0d | with_reducible exact y0a _ | with_reducible exact y0ad _ | with_reducible exact xq | with_reducible exact xqa _ | with_reducible exact xqs _ _ _ _) (fun hS => ?_)
          clear hK K
          try simp only [Act.put, List.setIfInBounds_toArray, List.set_cons_zero, List.set_cons_succ]
          refine wpAnyH_ready (rs := [0]) (by kernel_rfl) (by simp) ?_
          refine AllReadyH.cons rfl (fun K hK => ?_) AllReadyH.nil
          go_simp
          go_at_call 63
          refine (forms_in _).mono ?_
          rintro _ wq ⟨bq, rfl, hlq, hFq, hBq⟩
          have HXq := Lib.hid (show Cells wq Gx 102 #[.int .i64 (o : Nat), .int .i64 (v 0 : Nat), .int .i64 (v 1 : Nat), .int .i64 (v 2 : Nat), .int .i64 (n : Nat), .int .u64 (k : Nat)] from by first | exact Cells.keep HI3.out.drew hBq | exact Cells.keep (HI3.out.alloc _).drew hBq | exact Cells.keep (HI3.out.drew.alloc _).drew hBq)
          have xq : wq.cell? ⟨Gx, 0, none⟩ = some (.int .i64 (o : Int)) := HXq.out.cell (j := 0) rfl
          have xqa : ∀ Z, (wq.alloc Z).cell? ⟨Gx, 0, none⟩ = some (.int .i64 (o : Int)) := fun Z => (HXq.out.alloc Z).cell (j := 0) rfl
          have xqs : ∀ e1 e2 e3 e4, ((((wq.setCell ⟨w3.heap.size, 0, none⟩ e1).setCell ⟨w3.heap.size, 1, none⟩ e2).setCell ⟨w3.heap.size, 2, none⟩ e3).setCell ⟨w3.heap.size, 3, none⟩ e4).cell? ⟨Gx, 0, none⟩ = some (.int .i64 (o : Int)) := fun e1 e2 e3 e4 => ((((HXq.out.far (a := ⟨w3.heap.size, 0, none⟩) (Nat.ne_of_lt HI3.out.lt) e1).far (a := ⟨w3.heap.size, 1, none⟩) (Nat.ne_of_lt HI3.out.lt) e2).far (a := ⟨w3.heap.size, 2, none⟩) (Nat.ne_of_lt HI3.out.lt) e3).far (a := ⟨w3.heap.size, 3, none⟩) (Nat.ne_of_lt HI3.out.lt) e4).cell (j := 0) rfl
          obtain ⟨q0, q1, q2, q3⟩ := forms_at hFq o2
          have r0 := fun Z => (forms_at (hFq.alloc Z) o2).1
          have r1 := fun Z => (forms_at (hFq.alloc Z) o2).2.1
          have r2 := fun Z => (forms_at (hFq.alloc Z) o2).2.2.1
          have r3 := fun Z => (forms_at (hFq.alloc Z) o2).2.2.2
          try (have HZq := Lib.hid (show Cells wq w3.heap.size 104 #[.string ⟨#[]⟩, .int .i64 0, .bool false, .bool false] from Cells.keep (Cells.new w3 _ _).drew hBq); have z0 := HZq.out.cell (j := 0) rfl; have z1 := HZq.out.cell (j := 1) rfl; have z2 := HZq.out.cell (j := 2) rfl; have z3 := HZq.out.cell (j := 3) rfl; have f0 := HZq.out.fz 0; have f1 := HZq.out.fz 1; have f2 := HZq.out.fz 2; have f3 := HZq.out.fz 3)
          have HBw := Lib.hid (show Below w3.heap.size w3 wq from by first | exact grow_to (Below.refl _ w3).drew hBq | exact grow_to ((Below.refl _ w3).alloc (Nat.le_refl _) _).drew hBq)
          have HFq := Lib.hid hFq
          have HBq := Lib.hid hBq
          have HLq := Lib.hid hlq
          clear hFq hBq hlq
          refine hK.out _ _ (by first | with_reducible exact y0 | with_reducible exact y0d | with_reducible exact y0a _ | with_reducible exact y0ad _ | with_reducible exact xq | with_reducible exact xqa _ | with_reducible exact xqs _ _ _ _) (fun hS => ?_)
          clear hK K
          try simp only [Act.put, List.setIfInBounds_toArray, List.set_cons_zero, List.set_cons_succ]
          refine wpAnyH_take (i := 3) (v := ?_) rfl (by kernel_rfl) (by kernel_rfl) (by kernel_rfl) (fun _ _ _ h => h) (Or.inl ⟨by rfl, ?_⟩) hS ?_
          rotate_left
          · (intro wx hSx; (try dsimp only at hSx); go_simp; (try with_reducible rfl))
          simp only [List.getElem_toArray, List.getElem_cons_succ, List.getElem_cons_zero, Act.put, List.setIfInBounds_toArray, List.set_cons_zero, List.set_cons_succ]
          refine wpAnyH_ready (rs := [4]) (by kernel_rfl) (by simp) ?_
          refine AllReadyH.cons rfl (fun K hK => ?_) AllReadyH.nil
          go_simp
          refine hK.out _ _ (by first | with_reducible exact y0 | with_reducible exact y0d | with_reducible exact y0a _ | with_reducible exact y0ad _ | with_reducible exact xq | with_reducible exact xqa _ | with_reducible exact xqs _ _ _ _) (fun hS => ?_)
          clear hK K
          try simp only [Act.put, List.setIfInBounds_toArray, List.set_cons_zero, List.set_cons_succ]
          refine wpAnyH_ready (rs := [6]) (by kernel_rfl) (by simp) ?_
          refine AllReadyH.cons rfl (fun K hK => ?_) AllReadyH.nil
          go_simp
          refine hK.out _ _ (by first | with_reducible exact y0 | with_reducible exact y0d | with_reducible exact y0a _ | with_reducible exact y0ad _ | with_reducible exact xq | with_reducible exact xqa _ | with_reducible exact xqs _ _ _ _) (fun hS => ?_)
          clear hK K
          try simp only [Act.put, List.setIfInBounds_toArray, List.set_cons_zero, List.set_cons_succ]
          refine wpAnyH_done (by kernel_rfl) ?_ _
          go_wp2_with fail
          go_meet
          first
            | exact ⟨_, rfl, HBw.out.size, Cells.new _ _ _, HBw.out.alloc HBw.out.size _⟩
            | exact ⟨_, rfl, Nat.le_refl _, (form_end HZq.out HXq.out HI3.out.lt HBw.out (Nat.le_refl _)).1, (form_end HZq.out HXq.out HI3.out.lt HBw.out (Nat.le_refl _)).2.2⟩
      case rest =>
        obtain ⟨b5, rfl, hb5, hF, hB9⟩ := hcut
        rw [HFC.out] at hF
        clear HFC
        have HF9 := Lib.hid hF
        have HI9 := Lib.hid (HI3.out.keep hB9)
        have HB9 := Lib.hid (grow_to HB3.out hB9)
        have HD9 := Lib.hid (HD3.out.keep hB9)
        have HNG := Lib.hid (Nat.ne_of_gt HBG.out)
        have HNF := Lib.hid (show b5 ≠ Bb from by have := HD3.out.lt; omega)
        clear hF hB9 hb5 HI3 HB3 HD3 i0 i1
        have f0 : wc.cell? ⟨b5, 0, none⟩ = some (.string Wd) := HF9.out.cell (j := 0) rfl
        go_upto_region 11 with (go_at_call 16; refine (HKWD.out _ HD9.out).mono ?_; rintro _ w4 ⟨⟨nn, rfl⟩, hd4, hk4⟩; have HD4 := Lib.hid hd4; have HI4 := Lib.hid (HI9.out.bk hk4 HNG.out (by decide)); have HF4 := Lib.hid (HF9.out.bk hk4 HNF.out (by decide)); have HB4 := Lib.hid (HB9.out.trans (Below.mono hk4.below (Nat.le_of_lt HWB.out))); clear hd4 hk4)
        clear HKWD f0 HI9 HF9 HB9 HD9
        have d1 : w4.cell? ⟨Gx, 1, none⟩ = some (.int .i64 (v 0 : Nat)) := HI4.out.cell (j := 1) rfl
        have d2 : w4.cell? ⟨Gx, 2, none⟩ = some (.int .i64 (v 1 : Nat)) := HI4.out.cell (j := 2) rfl
        have d3 : w4.cell? ⟨Gx, 3, none⟩ = some (.int .i64 (v 2 : Nat)) := HI4.out.cell (j := 3) rfl
        have f1 : w4.cell? ⟨b5, 1, none⟩ = some (.int .i64 (r : Nat)) := HF4.out.cell (j := 1) rfl
        have f1a : ∀ Z, (w4.alloc Z).cell? ⟨b5, 1, none⟩ = some (.int .i64 (r : Nat)) := fun Z => (HF4.out.alloc Z).cell (j := 1) rfl
        have i5 : (0 : Int) ≤ r := by omega
        have i6 : (r : Int) ≤ 3 := by omega
        go_wp2
        have HL5 := Lib.hid (Cells.new w4 3 #[.int .i64 (v 0 : Nat), .int .i64 (v 1 : Nat), .int .i64 (v 2 : Nat)])
        have HI5 := Lib.hid (HI4.out.alloc (.cells #[.int .i64 (v 0 : Nat), .int .i64 (v 1 : Nat), .int .i64 (v 2 : Nat)] 3))
        have HF5 := Lib.hid (HF4.out.alloc (.cells #[.int .i64 (v 0 : Nat), .int .i64 (v 1 : Nat), .int .i64 (v 2 : Nat)] 3))
        have HB5 := Lib.hid (HB4.out.alloc HB4.out.size (.cells #[.int .i64 (v 0 : Nat), .int .i64 (v 1 : Nat), .int .i64 (v 2 : Nat)] 3))
        have HD5 := Lib.hid (HD4.out.keep ((Below.refl w4.heap.size w4).alloc (Nat.le_refl _) (.cells #[.int .i64 (v 0 : Nat), .int .i64 (v 1 : Nat), .int .i64 (v 2 : Nat)] 3)))
        have HNL := Lib.hid (Nat.ne_of_gt HD4.out.lt)
        clear HI4 HF4 HB4 HD4 d1 d2 d3 f1 f1a i5 i6
        generalize w4.alloc (.cells #[.int .i64 (v 0 : Nat), .int .i64 (v 1 : Nat), .int .i64 (v 2 : Nat)] 3) = w5 at *
        generalize w4.heap.size = Bl at *
        clear w4 w3 wc
        have HDone : Hid (∀ wz, BK Bb w5 wz → Below w.heap.size w wz) := Lib.hid fun wz hz => HB5.out.trans (Below.mono hz.below (Nat.le_of_lt HWB.out))
        have HB5L := Lib.hid HD5.out.lt
        clear HB5
        go_loopw [52] (fun iv wx => ∃ i : Nat, i ≤ r ∧ iv = .int .i64 (i : Int) ∧ Bd wx Bb (HD g ++ LW ++ RT i) ∧ BK Bb w5 wx) (fun iv _ => r - (intOf iv).toNat)
        case atStart => exact ⟨0, Nat.zero_le _, rfl, by rw [HR0.out, List.append_nil]; exact HD5.out, BK.refl _ _⟩
        case round =>
          obtain ⟨i, hi, rfl, hd, hB⟩ := hrel
          have HDX := Lib.hid hd
          have HBX := Lib.hid hB
          clear hd hB
          by_cases hlt2 : i < r
          · have h3i : i < 3 := by omega
            have l0 : wr.cell? ⟨Bl, i, none⟩ = some (.int .i64 (v i : Nat)) := (HL5.out.bk HBX.out HNL.out (by decide)).cell (by rcases i with _ | _ | _ | i <;> first | rfl | omega)
            have kv := HKV.out i wr (HTA.out _ (HDone.out _ HBX.out))
            have HKX := Lib.hid (HKVW.out i (by omega))
            have svi := HVS.out i
            generalize sv i = Sv at *
            generalize v i = vi at *
            have i2 : (0 : Int) ≤ i := by omega
            have i4 : (i : Int) < r := by omega
            have hwi : wrap64 ((i : Int) + 1) = (i : Int) + 1 := by unfold wrap64; omega
            have z1 : ¬ 9223372036854775807 < (ByteArray.mk #[32, 114]).size + Sv.size := by rw [show (ByteArray.mk #[32, 114]).size = 2 from rfl]; omega
            have HLT := Lib.hid hlt2
            clear svi h3i hlt2 hi hlt HSU HKV HKVW HVS HRL HR0 HKN HKK sn sk HKNW HKKW HKB HTL HTT hf o1 o2 r3 n64 hb hg hl1 hl2
            go_upto_region 15 with (first | (go_at_call 17; refine kv.mono ?_; rintro _ w6 ⟨rfl, hb6⟩; have HD6 := Lib.hid (HDX.out.keep hb6); have HB6 := Lib.hid (HBX.out.trans (BK.of hb6 (Nat.le_of_lt HDX.out.lt))); clear hb6) | (go_at_call 16; refine (HKX.out _ HD6.out).mono ?_; rintro _ w7 ⟨⟨nn, rfl⟩, hd7, hk7⟩; have HD7 := Lib.hid hd7; have HB7 := Lib.hid (HB6.out.trans hk7); clear hd7 hk7))
            clear kv i4 i2 z1 l0
            go_wp2
            exact ⟨⟨i + 1, HLT.out, up_val hwi, HD7.out, HB7.out⟩, up_end HLT.out hwi⟩
          · obtain rfl : i = r := by omega
            have HSU2 : Hid (HD (g + 1) = HD g ++ LW ++ RT i ++ tailT bn bk n k ++ [10]) := Lib.hid (by rw [HSU.out]; simp only [List.append_assoc])
            generalize HD g ++ LW ++ RT i = LR at *
            have i4 : ¬ (i : Int) < i := by omega
            have HI6 := Lib.hid (HI5.out.bk HBX.out HNG.out (by decide))
            have HF6 := Lib.hid (HF5.out.bk HBX.out HNF.out (by decide))
            have HT6 := HTA.out _ (HDone.out _ HBX.out)
            have kn := HKN.out wr HT6
            have kk := HKK.out wr HT6
            clear HT6 HSU HKV HKVW HVS HR0 HKN HKK HL5 HI5 HF5 hi hlt2
            have d4 : wr.cell? ⟨Gx, 4, none⟩ = some (.int .i64 (n : Nat)) := HI6.out.cell (j := 4) rfl
            have d5 : wr.cell? ⟨Gx, 5, none⟩ = some (.int .u64 (k : Nat)) := HI6.out.cell (j := 5) rfl
            have f2 : wr.cell? ⟨b5, 2, none⟩ = some (.bool bn) := HF6.out.cell (j := 2) rfl
            have f3 : wr.cell? ⟨b5, 3, none⟩ = some (.bool bk) := HF6.out.cell (j := 3) rfl
            have z1 : ¬ 9223372036854775807 < (ByteArray.mk #[32]).size + Sn.size := by rw [show (ByteArray.mk #[32]).size = 1 from rfl]; omega
            have z2 : ¬ 9223372036854775807 < (ByteArray.mk #[32]).size + Sk.size := by rw [show (ByteArray.mk #[32]).size = 1 from rfl]; omega
            have hwg := wrap_up hlt hl2
            have HG1 : Hid (g + 1 ≤ len ∧ g < len) := Lib.hid ⟨hlt, hlt⟩
            have HLL : Hid (∀ bn bk, (LR ++ tailT bn bk n k).length ≤ 5000) := Lib.hid fun bn bk => by rw [List.length_append]; have := HTL.out bn bk; have := HRL.out; omega
            clear sn sk hf o1 o2 r3 n64 hb hg hl1 hlt hl2 HTL
            cases bn <;> cases bk
            · rw [HTT.out.2.2, List.append_nil] at HSU2
              have HLB := Lib.hid (show LR.length ≤ 5000 from by have := HRL.out; omega)
              clear kn kk d4 d5 z1 z2
              go_wp2_with (go_at_call 18; refine (HKB.out _ _ HLB.out HDX.out).mono ?_; rintro _ w8 ⟨rfl, hd8, hk8⟩; have HD8 := Lib.hid hd8; have HB8 := Lib.hid (HBX.out.trans hk8); clear hd8 hk8)
              refine ⟨⟨g + 1, HG1.out.1, up_val hwg, by rw [HSU2.out]; exact HD8.out, HDone.out _ HB8.out⟩, up_end HG1.out.2 hwg⟩
            · rw [HTT.out.2.1] at HSU2
              have HLB := Lib.hid (show (LR ++ LK).length ≤ 5000 from HTT.out.2.1 ▸ HLL.out false true)
              clear kn d4 z1
              go_wp2_with (first | (go_at_call 67; refine kk.mono ?_; rintro _ w6 ⟨rfl, hb6⟩; have HD6 := Lib.hid (HDX.out.keep hb6); have HB6 := Lib.hid (HBX.out.trans (BK.of hb6 (Nat.le_of_lt HDX.out.lt))); clear hb6) | (go_at_call 16; refine (HKKW.out _ _ HRL.out HD6.out).mono ?_; rintro _ w7 ⟨⟨nn, rfl⟩, hd7, hk7⟩; have HD7 := Lib.hid hd7; have HB7 := Lib.hid (HB6.out.trans hk7); clear hd7 hk7) | (go_at_call 18; refine (HKB.out _ _ HLB.out HD7.out).mono ?_; rintro _ w8 ⟨rfl, hd8, hk8⟩; have HD8 := Lib.hid hd8; have HB8 := Lib.hid (HB7.out.trans hk8); clear hd8 hk8))
              refine ⟨⟨g + 1, HG1.out.1, up_val hwg, by rw [HSU2.out]; exact HD8.out, HDone.out _ HB8.out⟩, up_end HG1.out.2 hwg⟩
            · rw [HTT.out.1] at HSU2
              have HLB := Lib.hid (show (LR ++ LN).length ≤ 5000 from HTT.out.1 ▸ HLL.out true false)
              clear kk d5 z2
              go_wp2_with (first | (go_at_call 17; refine kn.mono ?_; rintro _ w6 ⟨rfl, hb6⟩; have HD6 := Lib.hid (HDX.out.keep hb6); have HB6 := Lib.hid (HBX.out.trans (BK.of hb6 (Nat.le_of_lt HDX.out.lt))); have HF7 := Lib.hid (HF6.out.keep hb6); clear hb6) | (go_at_call 16; refine (HKNW.out _ _ HRL.out HD6.out).mono ?_; rintro _ w7 ⟨⟨nn, rfl⟩, hd7, hk7⟩; have HD7 := Lib.hid hd7; have HB7 := Lib.hid (HB6.out.trans hk7); have f4 : w7.cell? ⟨b5, 3, none⟩ = some (.bool false) := (HF7.out.bk hk7 HNF.out (by decide)).cell (j := 3) rfl; clear hd7 hk7) | (go_at_call 18; refine (HKB.out _ _ HLB.out HD7.out).mono ?_; rintro _ w8 ⟨rfl, hd8, hk8⟩; have HD8 := Lib.hid hd8; have HB8 := Lib.hid (HB7.out.trans hk8); clear hd8 hk8))
              refine ⟨⟨g + 1, HG1.out.1, up_val hwg, by rw [HSU2.out]; exact HD8.out, HDone.out _ HB8.out⟩, up_end HG1.out.2 hwg⟩
            · exact absurd ⟨rfl, rfl⟩ HNK.out
    · obtain rfl : g = len := by omega
      have i1 : ¬ (g : Int) < g := by omega
      go_wp2_with (go_at_call 21; refine (bstr_any HBDR.out).mono ?_; rintro _ w8 ⟨rfl, hk8⟩; have HB8 := Lib.hid (HBR.out.trans (Below.mono hk8.below (Nat.le_of_lt HWB.out))); clear hk8)
      go_ret2
      exact ⟨rfl, HB8.out⟩
end Go.Proofs.YtdkencepmdfacaaGreatDoor
