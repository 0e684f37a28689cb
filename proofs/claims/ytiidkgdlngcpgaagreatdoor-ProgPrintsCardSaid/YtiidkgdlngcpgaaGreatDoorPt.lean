/- The document's line and Print (contracts). -/
import Derived.Test.YtiidkgdlngcpgaaGreatDoorPa
import Derived.Test.YtiidkgdlngcpgaaGreatDoorPp
import Derived.Test.YtiidkgdlngcpgaaGreatDoorNumRText
set_option maxRecDepth 100000
namespace Go.Proofs.YtiidkgdlngcpgaaGreatDoor
open Go.RowKit Ieee

theorem rdig_any {n : Nat} (h : n < 18446744073709551616) (W : World) : Calls Tryz.prog 35 #[.int .u64 (n : Nat)] W fun e w' => e = .returned (.string (strOf (Lib.decDigits n))) ∧ Below W.heap.size W w' := rdigits_any (n + 1) n (Nat.lt_succ_self n) h W

set_option maxHeartbeats 4000000 in
set_option maxRecDepth 100000 in
theorem rline_any {o r n k : Nat} {v : Nat → Nat} (o1 : 1 ≤ o) (o2 : o < 25) (er : opRegs (o : Int) = (r : Int)) (r3 : r ≤ 3) (n64 : n ≤ 64) (hv : ∀ i, v i < 8) (hk : k < 18446744073709551616) (w : World) :
    Calls Tryz.prog 36 #[.agg #[.int .i64 (o : Nat), .int .i64 (v 0 : Nat), .int .i64 (v 1 : Nat), .int .i64 (v 2 : Nat), .int .i64 (n : Nat), .int .u64 (k : Nat)]] w fun e w' => e = .returned (.string (strOf (opText o ++ (regT v r ++ tailT (opN (o : Int)) (opK (o : Int)) n k) ++ [10]))) ∧ Below w.heap.size w w' := by
  have HI := Lib.hid (Cells.new w 43 #[.int .i64 (o : Nat), .int .i64 (v 0 : Nat), .int .i64 (v 1 : Nat), .int .i64 (v 2 : Nat), .int .i64 (n : Nat), .int .u64 (k : Nat)])
  have HB := Lib.hid ((Below.refl w.heap.size w).alloc (Nat.le_refl _) (.cells #[.int .i64 (o : Nat), .int .i64 (v 0 : Nat), .int .i64 (v 1 : Nat), .int .i64 (v 2 : Nat), .int .i64 (n : Nat), .int .u64 (k : Nat)] 43))
  have kh := fun W => rhas_any (o := o) o1 o2 W
  rw [er] at kh
  have kw : ∀ W, Calls Tryz.prog 59 #[.int .i64 (o : Nat)] W fun e w' => e = .returned (.string (strOf (opText o))) ∧ Below W.heap.size W w' := fun W => by
    have h := rword_any (o : Nat) W
    rw [Int.toNat_natCast, opWord_text o2] at h
    exact h
  have HNK := Lib.hid (nk_not (o : Int))
  have KV := Lib.hid fun i W => rdig_any (n := v i) (by have := hv i; omega) W
  have kn := fun W => rdig_any (n := n) (by omega) W
  have kk := fun W => rtext_any (a := k) (by unfold signB; omega) W
  have HVS : Hid (∀ i, (strOf (Lib.decDigits (v i))).size ≤ 1) := Lib.hid fun i => by rw [strOf_size]; exact dec_len (k := 0) (by have := hv i; omega)
  have HRS : Hid (∀ i, (strOf (regT v i)).size ≤ 3 * i) := Lib.hid fun i => by rw [strOf_size]; exact regT_le hv i
  have so : (strOf (opText o)).size ≤ 5 := by rw [strOf_size]; exact opText_len o
  have sn : (strOf (Lib.decDigits n)).size ≤ 2 := by rw [strOf_size]; exact dec_len (k := 1) (by omega)
  have sk : (strOf (ftext k)).size ≤ 32 := by rw [strOf_size]; exact ftext_len32 k
  have HV1 := Lib.hid fun i => wrapU (n := v i) (by have := hv i; omega)
  have un := wrapU (n := n) (by omega)
  have uk := wrapU (n := k) (by omega)
  have HR0 : Hid (strOf (regT v 0) = ⟨#[]⟩) := Lib.hid rfl
  have HR1 : Hid (∀ i, strOf (regT v (i + 1)) = strOf (regT v i) ++ ({ data := #[32, 114] } ++ strOf (Lib.decDigits (v i)))) := Lib.hid fun i => by rw [regT_succ, strOf_app]; rfl
  have HSU : Hid (strOf (opText o ++ (regT v r ++ tailT (opN (o : Int)) (opK (o : Int)) n k) ++ [10]) = strOf (opText o) ++ strOf (regT v r) ++ (if opN (o : Int) = true then { data := #[32] } ++ strOf (Lib.decDigits n) else ⟨#[]⟩) ++ (if opK (o : Int) = true then { data := #[32] } ++ strOf (ftext k) else ⟨#[]⟩) ++ { data := #[10] }) := Lib.hid (by
    rw [strOf_app, strOf_app, strOf_app]
    have e : strOf (tailT (opN (o : Int)) (opK (o : Int)) n k) = (if opN (o : Int) = true then { data := #[32] } ++ strOf (Lib.decDigits n) else ⟨#[]⟩) ++ (if opK (o : Int) = true then { data := #[32] } ++ strOf (ftext k) else ⟨#[]⟩) := by
      unfold tailT
      rw [strOf_app]
      cases opN (o : Int) <;> cases opK (o : Int) <;> rfl
    rw [e]
    simp only [ByteArray.append_assoc, show strOf [10] = ({ data := #[10] } : ByteArray) from rfl])
  clear er
  generalize opN (o : Int) = bn at *
  generalize opK (o : Int) = bk at *
  obtain ⟨FINAL, hFINAL⟩ : ∃ FINAL, strOf (opText o ++ (regT v r ++ tailT bn bk n k) ++ [10]) = FINAL := ⟨_, rfl⟩
  rw [hFINAL] at HSU ⊢
  clear hFINAL
  generalize strOf (opText o) = Wd at *
  generalize strOf (Lib.decDigits n) = Sn at *
  replace kk : ∀ W, Calls Tryz.prog 73 #[.int .u64 (k : Nat)] W fun e w' => e = .returned (.string (strOf (ftext k))) ∧ Below W.heap.size W w' := kk
  generalize strOf (ftext k) = Sk at *
  obtain ⟨sv, hsv⟩ : ∃ sv : Nat → ByteArray, (fun i => strOf (Lib.decDigits (v i))) = sv := ⟨_, rfl⟩
  obtain ⟨sr, hsr⟩ : ∃ sr : Nat → ByteArray, (fun i => strOf (regT v i)) = sr := ⟨_, rfl⟩
  replace HVS : Hid (∀ i, (sv i).size ≤ 1) := Lib.hid (hsv ▸ HVS.out)
  replace HRS : Hid (∀ i, (sr i).size ≤ 3 * i) := Lib.hid (hsr ▸ HRS.out)
  replace HR0 : Hid (sr 0 = ⟨#[]⟩) := Lib.hid (hsr ▸ HR0.out)
  replace HR1 : Hid (∀ i, sr (i + 1) = sr i ++ ({ data := #[32, 114] } ++ sv i)) := Lib.hid (by rw [← hsr, ← hsv]; exact HR1.out)
  replace HSU : Hid (FINAL = Wd ++ sr r ++ (if bn = true then { data := #[32] } ++ Sn else ⟨#[]⟩) ++ (if bk = true then { data := #[32] } ++ Sk else ⟨#[]⟩) ++ { data := #[10] }) := Lib.hid (hsr ▸ HSU.out)
  replace KV : Hid (∀ i W, Calls Tryz.prog 35 #[.int .u64 (v i : Nat)] W fun e w' => e = .returned (.string (sv i)) ∧ Below W.heap.size W w') := Lib.hid (hsv ▸ KV.out)
  have KN := Lib.hid kn
  have KK := Lib.hid kk
  have KW := Lib.hid kw
  have KH := Lib.hid kh
  have c0 := HI.out.cell (j := 0) rfl
  have c1 := HI.out.cell (j := 1) rfl
  have c2 := HI.out.cell (j := 2) rfl
  have c3 := HI.out.cell (j := 3) rfl
  clear hsv hsr kn kk kw kh hv hk
  go_enter Tryz.func36, Tryz.ntmps36
  go_upto_region 1 with fail
  generalize w.alloc (.cells #[.int .i64 (o : Nat), .int .i64 (v 0 : Nat), .int .i64 (v 1 : Nat), .int .i64 (v 2 : Nat), .int .i64 (n : Nat), .int .u64 (k : Nat)] 43) = w1 at *
  go_upto_region 2 with (go_at_call 47; go_loud (refine (KH.out _).mono ?_); rintro _ w5 ⟨rfl, e5⟩; rw [e5]; clear e5 w5)
  clear KH
  go_upto_region 3 with (go_at_call 59; go_loud (refine (KW.out _).mono ?_); rintro _ w4 ⟨rfl, hb4⟩; have HI4 := Lib.hid (HI.out.keep hb4); have HB4 := Lib.hid (grow_to HB.out hb4); clear hb4)
  clear KW c0 c1 c2 c3 HI HB
  have d1 : w4.cell? ⟨w.heap.size, 1, none⟩ = some (.int .i64 (v 0 : Nat)) := HI4.out.cell (j := 1) rfl
  have d2 : w4.cell? ⟨w.heap.size, 2, none⟩ = some (.int .i64 (v 1 : Nat)) := HI4.out.cell (j := 2) rfl
  have d3 : w4.cell? ⟨w.heap.size, 3, none⟩ = some (.int .i64 (v 2 : Nat)) := HI4.out.cell (j := 3) rfl
  go_upto_region 4 with fail
  have HL5 := Lib.hid (Cells.new w4 76 #[.int .i64 (v 0 : Nat), .int .i64 (v 1 : Nat), .int .i64 (v 2 : Nat)])
  have HI5 := Lib.hid (HI4.out.alloc (.cells #[.int .i64 (v 0 : Nat), .int .i64 (v 1 : Nat), .int .i64 (v 2 : Nat)] 76))
  have HB5 := Lib.hid (HB4.out.alloc HB4.out.size (.cells #[.int .i64 (v 0 : Nat), .int .i64 (v 1 : Nat), .int .i64 (v 2 : Nat)] 76))
  clear HI4 HB4 d1 d2 d3
  generalize w4.alloc (.cells #[.int .i64 (v 0 : Nat), .int .i64 (v 1 : Nat), .int .i64 (v 2 : Nat)] 76) = w5 at *
  generalize w4.heap.size = Bl at *
  clear w4 w1
  go_wp2
  go_loopw [8, 6] (fun iv bv wx => ∃ i : Nat, i ≤ r ∧ iv = .int .i64 (i : Int) ∧ bv = .string (Wd ++ sr i) ∧ Below w5.heap.size w5 wx) (fun iv _ _ => r - (intOf iv).toNat)
  case atStart => exact ⟨0, Nat.zero_le _, rfl, by rw [HR0.out]; congr 1; exact (ByteArray.append_empty).symm, Below.refl _ _⟩
  case round =>
    obtain ⟨i, hi, rfl, rfl, hB⟩ := hrel
    have sI : (Wd ++ sr i).size ≤ 14 := by rw [ByteArray.size_append]; have := HRS.out i; omega
    by_cases hlt2 : i < r
    · have h3i : i < 3 := by omega
      have l0 : wr.cell? ⟨Bl, i, none⟩ = some (.int .i64 (v i : Nat)) := (HL5.out.keep hB).cell (by rcases i with _ | _ | _ | i <;> first | rfl | omega)
      have HBX := Lib.hid hB
      have HSI : Hid (Wd ++ sr (i + 1) = Wd ++ sr i ++ ({ data := #[32, 114] } ++ sv i)) := Lib.hid (by rw [HR1.out, ByteArray.append_assoc])
      have kv := KV.out i
      have uv := HV1.out i
      have svi := HVS.out i
      clear hB
      generalize Wd ++ sr i = SI at *
      generalize sv i = Sv at *
      generalize v i = vi at *
      have i2 : (0 : Int) ≤ i := by omega
      have i3 : (i : Int) < 3 := by omega
      have i4 : (i : Int) < r := by omega
      have hwi : wrap64 ((i : Int) + 1) = (i : Int) + 1 := by unfold wrap64; omega
      have e2 : (ByteArray.mk #[32, 114]).size = 2 := rfl
      have ss1 : ¬ 9223372036854775807 < (ByteArray.mk #[32, 114]).size + Sv.size := by omega
      have ss2 : ¬ 9223372036854775807 < SI.size + ((ByteArray.mk #[32, 114]) ++ Sv).size := by rw [ByteArray.size_append]; omega
      have ss3 : ¬ 9223372036854775807 < SI.size + ((ByteArray.mk #[32, 114]).size + Sv.size) := by omega
      clear e2
      have HLT := Lib.hid hlt2
      clear sI svi h3i hlt2 hi so sn sk n64 r3 un uk o1 o2
      have HDone : Hid (∀ wz : World, Below wr.heap.size wr wz → Below w5.heap.size w5 wz) := Lib.hid fun wz hz => grow_to HBX.out hz
      clear HBX
      go_upto_region 6 with (go_at_call 35; refine (kv _).mono ?_; rintro _ w6 ⟨rfl, hb6⟩; have HB6 := Lib.hid (HDone.out _ hb6); clear hb6)
      clear uv kv i4 i2 i3 ss1 ss2 ss3
      go_wp2
      exact ⟨⟨i + 1, HLT.out, up_val hwi, by rw [HSI.out], HB6.out⟩, up_end HLT.out hwi⟩
    · obtain rfl : i = r := by omega
      have HSU2 : Hid (FINAL = Wd ++ sr i ++ (if bn = true then { data := #[32] } ++ Sn else ⟨#[]⟩) ++ (if bk = true then { data := #[32] } ++ Sk else ⟨#[]⟩) ++ { data := #[10] }) := HSU
      generalize Wd ++ sr i = SR at *
      have i4 : ¬ (i : Int) < i := by omega
      have HI6 := Lib.hid (HI5.out.keep hB)
      have HB6 := Lib.hid (grow_to HB5.out hB)
      have kn := KN.out
      have kk := KK.out
      clear hB HSU KN KK KV HR1 HR0 HRS HVS HV1 HL5 HI5 HB5 hi hlt2
      have d4 : wr.cell? ⟨w.heap.size, 4, none⟩ = some (.int .i64 (n : Nat)) := HI6.out.cell (j := 4) rfl
      have d5 : wr.cell? ⟨w.heap.size, 5, none⟩ = some (.int .u64 (k : Nat)) := HI6.out.cell (j := 5) rfl
      have e1 : (ByteArray.mk #[32]).size = 1 := rfl
      have e2 : (ByteArray.mk #[10]).size = 1 := rfl
      have a0 : ¬ 9223372036854775807 < SR.size + (ByteArray.mk #[10]).size := by omega
      have a1 : ¬ 9223372036854775807 < (ByteArray.mk #[32]).size + Sn.size := by omega
      have a2 : ¬ 9223372036854775807 < (ByteArray.mk #[32]).size + Sk.size := by omega
      have b1 : ¬ 9223372036854775807 < SR.size + ((ByteArray.mk #[32]) ++ Sn).size := by rw [ByteArray.size_append]; omega
      have b2 : ¬ 9223372036854775807 < SR.size + ((ByteArray.mk #[32]) ++ Sk).size := by rw [ByteArray.size_append]; omega
      have b3 : ¬ 9223372036854775807 < SR.size + ((ByteArray.mk #[32]).size + Sn.size) := by omega
      have b4 : ¬ 9223372036854775807 < SR.size + ((ByteArray.mk #[32]).size + Sk.size) := by omega
      have b5 : ¬ 9223372036854775807 < (SR ++ ((ByteArray.mk #[32]) ++ Sn)).size + (ByteArray.mk #[10]).size := by rw [ByteArray.size_append, ByteArray.size_append]; omega
      have b6 : ¬ 9223372036854775807 < (SR ++ ((ByteArray.mk #[32]) ++ Sk)).size + (ByteArray.mk #[10]).size := by rw [ByteArray.size_append, ByteArray.size_append]; omega
      have b7 : ¬ 9223372036854775807 < SR.size + ((ByteArray.mk #[32]).size + Sn.size) + (ByteArray.mk #[10]).size := by omega
      have b8 : ¬ 9223372036854775807 < SR.size + ((ByteArray.mk #[32]).size + Sk.size) + (ByteArray.mk #[10]).size := by omega
      clear e1 e2 sI sn sk so n64 o1 o2 r3
      have hE : (⟨#[]⟩ : ByteArray) = ByteArray.empty := rfl
      cases bn <;> cases bk
      · have HFIN : Hid (FINAL = SR ++ { data := #[10] }) := Lib.hid (by rw [HSU2.out]; show SR ++ ⟨#[]⟩ ++ ⟨#[]⟩ ++ _ = _; rw [hE, ByteArray.append_empty, ByteArray.append_empty])
        clear HSU2 kn kk d4 d5 a1 a2 b1 b2 b3 b4 b5 b6 b7 b8 hE
        go_wp2
        go_ret
        exact ⟨by have h := HFIN.out; subst h; rfl, HB6.out⟩
      · have HFIN : Hid (FINAL = SR ++ ({ data := #[32] } ++ Sk) ++ { data := #[10] }) := Lib.hid (by rw [HSU2.out]; show SR ++ ⟨#[]⟩ ++ _ ++ _ = _; rw [hE, ByteArray.append_empty]; rfl)
        clear HSU2 kn d4 a0 a1 b1 b3 b5 b7 hE
        go_wp2_with (go_at_call 73; refine (kk _).mono ?_; rintro _ w8 ⟨rfl, hb8⟩; have HB8 := Lib.hid (grow_to HB6.out hb8); clear hb8)
        go_ret
        exact ⟨by have h := HFIN.out; subst h; rfl, HB8.out⟩
      · have HFIN : Hid (FINAL = SR ++ ({ data := #[32] } ++ Sn) ++ { data := #[10] }) := Lib.hid (by rw [HSU2.out]; show SR ++ _ ++ ⟨#[]⟩ ++ _ = _; rw [hE, ByteArray.append_empty]; rfl)
        clear HSU2 kk d5 a0 a2 b2 b4 b6 b8 hE
        go_wp2_with (go_at_call 35; refine (kn _).mono ?_; rintro _ w8 ⟨rfl, hb8⟩; have HB8 := Lib.hid (grow_to HB6.out hb8); clear hb8)
        go_ret
        exact ⟨by have h := HFIN.out; subst h; rfl, HB8.out⟩
      · exact absurd ⟨rfl, rfl⟩ HNK.out

set_option maxHeartbeats 4000000 in
set_option maxRecDepth 100000 in
theorem rprint_any (fuel : Int) (A : Option Addr) (l : List Ins) (cap : Nat) (w : World) (hC : CodeIn w w.heap.size A l) (hk : ∀ x ∈ l, x.k < 2 * signB) :
    Calls Tryz.prog 16 #[.agg #[.int .i64 fuel, .slice A l.length cap]] w fun e w' => e = .returned (.tuple #[.string (if (progCheck fuel l).1 = 0 then strOf (progText fuel.toNat l) else ⟨#[]⟩), .int .i64 (progCheck fuel l).1]) ∧ Below w.heap.size w w' := by
  have HX := Lib.hid (Cells.new w 24 #[.int .i64 fuel, .slice A l.length cap])
  have HB := Lib.hid ((Below.refl w.heap.size w).alloc (Nat.le_refl _) (.cells #[.int .i64 fuel, .slice A l.length cap] 24))
  have hck := rcheck_any fuel A l cap (w.alloc (.cells #[.int .i64 fuel, .slice A l.length cap] 24)) ((hC.keep HB.out).more HB.out.size)
  by_cases h0 : (progCheck fuel l).1 = 0
  case neg =>
    rw [if_neg h0]
    have t1 : ((progCheck fuel l).1 == 0) = false := by rw [beq_eq_false_iff_ne]; exact h0
    have t2 : ((progCheck fuel l).1 != 0) = true := by simp [bne, t1]
    have HCK := Lib.hid hck
    clear hck h0
    generalize (progCheck fuel l).1 = er at *
    generalize (progCheck fuel l).2 = at_ at *
    generalize l.length = len at *
    go_enter Tryz.func16, Tryz.ntmps16
    go_wp2_with fail
    refine HCK.out.mono ?_
    rintro _ w1 ⟨rfl, hb1⟩
    have HB1 := Lib.hid (grow_to HB.out hb1)
    clear hb1
    go_wp2
    go_ret2
    exact ⟨rfl, HB1.out⟩
  rw [if_pos h0, h0]
  rw [h0] at hck
  obtain ⟨hf, hl1, hl2⟩ := prog_range h0
  obtain ⟨fn, rfl⟩ := Int.eq_ofNat_of_zero_le (show 0 ≤ fuel by omega)
  have HFULL := Lib.hid (prog_full h0 hk)
  have HLE := Lib.hid (headT_le (fuel := fn) (by omega) hl2 fun x hx => ⟨(HFULL.out x hx).1, by have := (HFULL.out x hx).2; omega⟩)
  have HCC := Lib.hid hC
  have HCK := Lib.hid hck
  clear hck h0 hk hC
  rw [show ((fn : Int).toNat) = fn from Int.toNat_natCast fn, ← headT_all l.length (Nat.le_refl _)]
  have HS0 := Lib.hid (headT_zero fn l)
  obtain ⟨HD, hHD⟩ : ∃ HD, headT fn l = HD := ⟨_, rfl⟩
  have HSU : Hid (∀ (g : Nat) (x : Ins), l[g]? = some x → HD (g + 1) = HD g ++ (x.line ++ [10])) := Lib.hid fun g x hx => hHD ▸ headT_succ hx
  rw [hHD] at HS0 HLE ⊢
  clear hHD
  generalize (progCheck fn l).2 = at_ at *
  generalize hlen : l.length = len at *
  have HLEN := Lib.hid hlen
  clear hlen
  have k1 := fun W => rdig_any (n := fn) (by omega) W
  have s1 : (strOf (Lib.decDigits fn)).size ≤ 4 := by rw [strOf_size]; exact dec_len (k := 3) (by omega)
  have u1 : IntKind.u64.wrap (fn : Int) = fn := by rw [IntKind.wrap_u64]; omega
  have HS1 : Hid (strOf (HD 0) = { data := #[102, 117, 101, 108, 32] } ++ strOf (Lib.decDigits fn) ++ { data := #[10] }) := Lib.hid (by rw [HS0.out, strOf_app, strOf_app]; rfl)
  clear HS0
  generalize strOf (Lib.decDigits fn) = S1 at *
  go_enter Tryz.func16, Tryz.ntmps16
  go_upto_region 4 with (go_at_call 13; go_loud (refine HCK.out.mono ?_); rintro _ w1 ⟨rfl, hb1⟩; have HB1 := Lib.hid (grow_to HB.out hb1); have HX1 := Lib.hid (HX.out.keep hb1); clear hb1)
  clear HB HX HCK
  have q0 : w1.cell? ⟨w.heap.size, 0, none⟩ = some (.int .i64 (fn : Int)) := HX1.out.cell (j := 0) rfl
  have e5 : (ByteArray.mk #[102, 117, 101, 108, 32]).size = 5 := rfl
  have e1 : (ByteArray.mk #[10]).size = 1 := rfl
  have z1 : ¬ 9223372036854775807 < (ByteArray.mk #[102, 117, 101, 108, 32]).size + S1.size := by omega
  have z2 : ¬ 9223372036854775807 < ((ByteArray.mk #[102, 117, 101, 108, 32]) ++ S1).size + (ByteArray.mk #[10]).size := by rw [ByteArray.size_append]; omega
  have z3 : ¬ 9223372036854775807 < (ByteArray.mk #[102, 117, 101, 108, 32]).size + S1.size + (ByteArray.mk #[10]).size := by omega
  clear e5 e1
  go_upto_region 5 with (go_at_call 35; refine (k1 _).mono ?_; rintro _ w2 ⟨rfl, hb2⟩; have HX2 := Lib.hid (HX1.out.keep hb2); have HB2 := Lib.hid (grow_to HB1.out hb2); clear hb2)
  clear q0 k1 HB1 HX1 u1 z1 z2 z3
  clear w1
  rw [← HS1.out]
  clear HS1 s1
  go_wp2
  go_loopw [7, 6] (fun iv bv wr => ∃ g : Nat, g ≤ len ∧ iv = .int .i64 (g : Int) ∧ bv = .string (strOf (HD g)) ∧ Cells wr w.heap.size 24 #[.int .i64 fn, .slice A len cap] ∧ Below w.heap.size w wr) (fun iv _ _ => len - (intOf iv).toNat)
  case atStart => exact ⟨0, Nat.zero_le _, rfl, rfl, HX2.out, HB2.out⟩
  case round =>
    obtain ⟨g, hg, rfl, rfl, hX, hB⟩ := hrel
    have p1 : wr.cell? ⟨w.heap.size, 1, none⟩ = some (.slice A len cap) := hX.cell (j := 1) rfl
    have HXR := Lib.hid hX
    have HBR := Lib.hid hB
    clear hX hB HX2 HB2
    by_cases hlt : g < len
    · obtain ⟨x, hx⟩ : ∃ x, l[g]? = some x := ⟨l[g]'(by rw [HLEN.out]; exact hlt), List.getElem?_eq_getElem _⟩
      have HF := Lib.hid (HFULL.out x (List.mem_of_getElem? hx))
      obtain ⟨b, off, rfl, hb, hc⟩ := HCC.out (by rw [HLEN.out]; omega)
      obtain ⟨c0, c1, c2, c3, c4, c5⟩ := ((hc g x hx).1.keep HBR.out hb)
      have HSUX := Lib.hid (HSU.out g x hx)
      have HL1 := Lib.hid (HLE.out g)
      clear hc hx HCC HSU HFULL HLEN HLE
      have i0 : (0 : Int) ≤ g := by omega
      have i1 : (g : Int) < len := by omega
      obtain ⟨o, r, n, v, e0, e1, e2, e3, e4, o1, o2, er, r3, n64, hv, hk, eB, eT⟩ := ins_told HF.out.1 HF.out.2 hl2
      have kl := fun W => rline_any (n := n) (v := v) o1 o2 er r3 n64 hv hk W
      have hlt50 : (x.line).length ≤ 50 := line_le HF.out.1 (by have := HF.out.2; omega)
      have hln : opText o ++ (regT v r ++ tailT (opN (o : Int)) (opK (o : Int)) n x.k) ++ [10] = x.line ++ [10] := by rw [line_told e0 e1 e2 e3 e4 er r3]
      rw [hln] at kl
      have sl : (strOf (x.line ++ [10])).size ≤ 51 := by rw [strOf_size, List.length_append]; simp; omega
      have sg : (strOf (HD g)).size ≤ 4000 := by rw [strOf_size]; exact HL1.out
      have HSS : Hid (strOf (HD (g + 1)) = strOf (HD g) ++ strOf (x.line ++ [10])) := Lib.hid (by rw [HSUX.out, strOf_app])
      rw [e0] at c0
      rw [e1] at c1
      rw [e2] at c2
      rw [e3] at c3
      rw [e4] at c4
      clear hln hlt50 HSUX e0 e1 e2 e3 e4 eB eT HF HL1 er
      generalize strOf (x.line ++ [10]) = SL at *
      generalize strOf (HD g) = Sg at *
      generalize x.k = k at *
      clear x
      have hov : ¬ 9223372036854775807 < Sg.size + SL.size := by omega
      have hwg := wrap_up hlt hl2
      have HG1 : Hid (g + 1 ≤ len ∧ g < len) := Lib.hid ⟨hlt, hlt⟩
      clear sl sg o1 o2 r3 n64 hv hk hb hf hg hl1 hlt
      generalize (v 0 : Nat) = v0 at *
      generalize (v 1 : Nat) = v1 at *
      generalize (v 2 : Nat) = v2 at *
      clear v
      go_upto_region 7 with (go_at_call 36; refine (kl _).mono ?_; rintro _ w6 ⟨rfl, hb6⟩; have HX6 := Lib.hid (HXR.out.keep hb6); have HB6 := Lib.hid (grow_to HBR.out hb6); clear hb6)
      clear kl hov c0 c1 c2 c3 c4 c5 p1 i0 i1 hl2
      rw [← HSS.out]
      go_wp2
      refine ⟨⟨g + 1, HG1.out.1, up_val hwg, rfl, HX6.out, HB6.out⟩, up_end HG1.out.2 hwg⟩
    · obtain rfl : g = len := by omega
      have i1 : ¬ (g : Int) < g := by omega
      go_wp2
      go_ret2
      exact ⟨rfl, HBR.out⟩
end Go.Proofs.YtiidkgdlngcpgaaGreatDoor
