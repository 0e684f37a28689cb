/- script.bytes, script.formOf, form.named (contracts). -/
import Derived.Laws.Rows
import Derived.Test.YtdkencepmdfacaaGreatDoorGr7
import Derived.Test.YtdkencepmdfacaaGreatDoorGr9
import Derived.Test.YtdkencepmdfacaaGreatDoorGr4
import Derived.Test.YtdkencepmdfacaaGreatDoorPw
import Derived.Test.YtdkencepmdfacaaGreatDoorGr5
import Derived.Test.YtdkencepmdfacaaGreatDoorNumParse2
set_option maxRecDepth 100000
namespace Go.Proofs.YtdkencepmdfacaaGreatDoor
open Go.RowKit Ieee

theorem hex_index {k : IntKind} {n : Nat} (h : n < 16) (w : World) : (Instr.index 9 (.string { data := #[48, 49, 50, 51, 52, 53, 54, 55, 56, 57, 97, 98, 99, 100, 101, 102] }) (.int k (n : Nat))).run Tryz.prog w = .ok (.int .u8 (((hexD n).toNat : Nat) : Int)) w := by
  rw [run_index_string w 9 { data := #[48, 49, 50, 51, 52, 53, 54, 55, 56, 57, 97, 98, 99, 100, 101, 102] } k (n : Int) Tryz.underlying9]
  have key : ∀ n : Fin 16, ({ data := #[48, 49, 50, 51, 52, 53, 54, 55, 56, 57, 97, 98, 99, 100, 101, 102] } : ByteArray).size = 16 ∧ ∀ h : n.val < ({ data := #[48, 49, 50, 51, 52, 53, 54, 55, 56, 57, 97, 98, 99, 100, 101, 102] } : ByteArray).size, (({ data := #[48, 49, 50, 51, 52, 53, 54, 55, 56, 57, 97, 98, 99, 100, 101, 102] } : ByteArray)[n.val]'h).toNat = (hexD n.val).toNat := by decide +kernel
  have hk := key ⟨n, h⟩
  rw [dif_pos ⟨by omega, by rw [hk.1]; omega⟩]
  congr 3
  have := hk.2 (by rw [hk.1]; exact h)
  simpa using this
theorem tb_index {l : List UInt8} {j : Nat} (h : j < l.length) (w : World) : (Instr.index 9 (.string (strOf l)) (.int .i64 (j : Nat))).run Tryz.prog w = .ok (.int .u8 (((l[j]'h).toNat : Nat) : Int)) w := by
  have hsz : (strOf l).size = l.length := by rw [ba_size]
  rw [run_index_string w 9 (strOf l) .i64 (j : Int) Tryz.underlying9, dif_pos ⟨by omega, by rw [hsz]; omega⟩]
  congr 3
theorem hexB_snoc (l : List UInt8) (c : UInt8) : hexB (l ++ [c]) = hexB l ++ [hexD (c.toNat / 16)] ++ [hexD (c.toNat % 16)] := by simp [hexB]
theorem hexB_len (l : List UInt8) : (hexB l).length = 2 * l.length := by
  induction l with
  | nil => rfl
  | cons c m ih => rw [hexB_cons]; simp [ih]; omega
theorem u8_and15 (c : Nat) (h : c < 256) : bits .and .u8 ((c : Nat) : Int) 15 = ((c % 16 : Nat) : Int) := by
  have key : ∀ c : Fin 256, bits .and .u8 ((c.val : Nat) : Int) 15 = ((c.val % 16 : Nat) : Int) := by decide +kernel
  exact key ⟨c, h⟩

set_option maxHeartbeats 4000000 in
set_option maxRecDepth 100000 in
theorem sbytes_any (L : List UInt8) (hl : L.length ≤ 4096) (w : World) : Calls Tryz.prog 41 #[.string (strOf L)] w fun e w' => e = .returned (.string (strOf (hexT L))) ∧ Below w.heap.size w w' := by
  by_cases hL : L = []
  · subst hL
    go_enter Tryz.func41, Tryz.ntmps41
    go_wp2
    go_ret
    exact ⟨rfl, Below.refl _ _⟩
  have ht : hexT L = hexB L := by unfold hexT; rw [if_neg hL]
  rw [ht]
  have hne : ((strOf L).toList == []) = false := by rw [str_toList, beq_eq_false_iff_ne]; exact hL
  have hne2 : (strOf L).toList.isEmpty = false := by rw [str_toList]; cases L with
    | nil => exact absurd rfl hL
    | cons c l => rfl
  have HSZ : Hid ((strOf L).size = L.length) := Lib.hid (by rw [ba_size])
  have HIX := Lib.hid (fun (j : Nat) (h : j < L.length) W => tb_index h W)
  have HX := Lib.hid (fun (n : Nat) (h : n < 16) W => hex_index (k := .u8) h W)
  have HLL := Lib.hid hl
  obtain ⟨S, hS⟩ : ∃ S, strOf L = S := ⟨_, rfl⟩
  rw [hS] at hne hne2 HSZ HIX ⊢
  clear hS hL ht hl
  have HBd := Lib.hid (Bd.new w)
  have HB := Lib.hid ((Below.refl w.heap.size w).alloc (Nat.le_refl _) (.cells #[.pointer none, .slice none 0 0] 45))
  go_enter Tryz.func41, Tryz.ntmps41
  go_upto_region 4 with fail
  generalize w.alloc (.cells #[.pointer none, .slice none 0 0] 45) = w1 at *
  clear hne hne2
  go_wp2
  go_loopw [9] (fun iv wr => ∃ i : Nat, i ≤ L.length ∧ iv = .int .i64 (i : Int) ∧ Bd wr w.heap.size (hexB (L.take i)) ∧ Below w.heap.size w wr) (fun iv _ => L.length - (intOf iv).toNat)
  case atStart => exact ⟨0, Nat.zero_le _, rfl, by simpa [hexB] using HBd.out, HB.out⟩
  case round =>
    obtain ⟨i, hi, rfl, hd, hB⟩ := hrel
    have HDR := Lib.hid hd
    have HBR := Lib.hid hB
    clear hd hB HBd HB
    have hsz := HSZ.out
    by_cases hlt : i < L.length
    · have t1 : (i : Int) < (S.size : Int) := by omega
      have hx := HIX.out i hlt
      have hc : (L[i]'hlt).toNat < 256 := UInt8.toNat_lt _
      have HST : Hid (hexB (L.take (i + 1)) = hexB (L.take i) ++ [hexD ((L[i]'hlt).toNat / 16)] ++ [hexD ((L[i]'hlt).toNat % 16)]) := Lib.hid (by rw [List.take_succ_eq_append_getElem hlt, hexB_snoc])
      have HLN : Hid ((hexB (L.take i)).length ≤ 8192) := Lib.hid (by rw [hexB_len, List.length_take]; have := HLL.out; omega)
      generalize (L[i]'hlt).toNat = c at *
      have x1 := HX.out (c / 16) (by omega)
      have x2 := HX.out (c % 16) (by omega)
      rw [show ((c / 16 : Nat) : Int) = (c : Int) / 16 from by omega] at x1
      have q1 : (0 : Int) ≤ (c : Int) / 16 := by omega
      have q2 : (c : Int) / 16 < 16 := by omega
      have y2 := u8_and15 c hc
      have i0 : (0 : Int) ≤ i := by omega
      have HLT := Lib.hid (show i + 1 ≤ L.length ∧ i < L.length from ⟨hlt, hlt⟩)
      have hwi : wrap64 ((i : Int) + 1) = (i : Int) + 1 := by unfold wrap64; have := HLL.out; omega
      have HWI := Lib.hid hwi
      have HK1 : Hid (∀ W, Bd W w.heap.size (hexB (L.take i)) → Calls Tryz.prog 18 #[.pointer (some ⟨w.heap.size, 0, none⟩), .int .u8 (((hexD (c / 16)).toNat : Nat) : Int)] W fun e w' => e = .returned .nilIface ∧ Bd w' w.heap.size (hexB (L.take i) ++ [hexD (c / 16)]) ∧ BK w.heap.size W w') := Lib.hid fun W hW => wbyte_any hW _ (by have := HLN.out; omega)
      have HK2 : Hid (∀ W, Bd W w.heap.size (hexB (L.take i) ++ [hexD (c / 16)]) → Calls Tryz.prog 18 #[.pointer (some ⟨w.heap.size, 0, none⟩), .int .u8 (((hexD (c % 16)).toNat : Nat) : Int)] W fun e w' => e = .returned .nilIface ∧ Bd w' w.heap.size (hexB (L.take (i + 1))) ∧ BK w.heap.size W w') := Lib.hid fun W hW => by rw [HST.out]; exact wbyte_any hW _ (by rw [List.length_append]; have := HLN.out; simp; omega)
      generalize (hexD (c / 16)).toNat = d1 at *
      generalize (hexD (c % 16)).toNat = d2 at *
      obtain ⟨l1, e2⟩ : ∃ l1, c % 16 = l1 := ⟨_, rfl⟩
      rw [e2] at x2 y2
      have q3 : (0 : Int) ≤ l1 := by omega
      have q4 : (l1 : Int) < 16 := by omega
      clear e2 HST
      clear hi hlt hwi hc hsz
      go_upto_region 8 with (go_at_call 18; refine (HK1.out _ HDR.out).mono ?_; rintro _ w4 ⟨rfl, hd4, hk4⟩; have HD4 := Lib.hid hd4; have HB4 := Lib.hid (HBR.out.trans hk4.below); clear hd4 hk4)
      go_wp2_with (go_at_call 18; refine (HK2.out _ HD4.out).mono ?_; rintro _ w5 ⟨rfl, hd5, hk5⟩; have HD5 := Lib.hid hd5; have HB5 := Lib.hid (HB4.out.trans hk5.below); clear hd5 hk5)
      exact ⟨⟨i + 1, HLT.out.1, by first | exact up_val HWI.out | rfl, HD5.out, HB5.out⟩, by first | exact up_end HLT.out.2 HWI.out | (have hh := HLT.out; simp [intOf]; omega)⟩
    · obtain rfl : i = L.length := by omega
      have t1 : ¬ ((L.length : Nat) : Int) < (S.size : Int) := by omega
      rw [List.take_length] at HDR
      clear hsz hlt hi
      go_wp2_with (go_at_call 21; refine (bstr_any HDR.out).mono ?_; rintro _ w8 ⟨rfl, hk8⟩; have HB8 := Lib.hid (HBR.out.trans hk8.below); clear hk8)
      go_ret
      exact ⟨rfl, HB8.out⟩

end Go.Proofs.YtdkencepmdfacaaGreatDoor
