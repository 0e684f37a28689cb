/- strconv.ParseUint(s, 10, 53) of digits: the number, or the error that it is too great. strconv.Atoi of short numerals. -/
import Derived.Test.YtiidkgdlngcpgaaGreatDoorNb
import Derived.Test.YtiidkgdlngcpgaaGreatDoorNumDigits
import Derived.Test.YtiidkgdlngcpgaaGreatDoorShelf
import Derived.Lib.Strings
import Derived.Lib.Walk
import Derived.Lib.ConvBytes
import Derived.Lib.ParseIntBMem
import Derived.Laws.Strings3
import Derived.Laws.Closers25
import Derived.Laws.Closers25b
import Derived.BigCall
import Derived.BigGuard
set_option maxRecDepth 100000
namespace Go.Proofs.YtiidkgdlngcpgaaGreatDoor
open Go.RowKit Go.WideShapes

set_option maxHeartbeats 4000000 in
set_option maxRecDepth 100000 in
theorem iuint_any (t : ByteArray) (hne : t.size ≠ 0) (hmax : t.size < 1073741824) (hdig : t.data.toList.all isDig = true) (w : World) :
    Calls Tryz.prog 135 #[.string t, .int .i64 10, .int .i64 53] w fun e w' => e = .returned (Lib.uintTupleM 148 9007199254740991 (Lib.parseUintM 9007199254740991 0 t.data.toList)) ∧ w' = Lib.bytesWorld w 5 t := by
  have hemp : t.toList.isEmpty = false := by
    cases hc : t.toList with
    | nil =>
      exfalso
      rw [ByteArray.toList_eq] at hc
      have : t.data.toList.length = t.size := Array.length_toList
      rw [hc] at this
      exact hne this.symm
    | cons x l => rfl
  have hcv := Lib.run_convert_string_bytes (P := Tryz.prog) w 9 46 5 t (u := .string) Tryz.underlying9 Tryz.underlying46 Tryz.underlying5
  have hB : ∀ j, j < t.size → (Lib.bytesWorld w 5 t).cell? ⟨w.heap.size, j, none⟩ = some (.int .u8 (t.data.toList.getD j 0).toNat) := fun j hj => Lib.bytesWorld_cell w 5 t j hj
  obtain ⟨W1, hW1⟩ : ∃ W1, W1 = Lib.bytesWorld w 5 t := ⟨_, rfl⟩
  rw [← hW1] at hcv hB ⊢
  clear hW1
  obtain ⟨bs, hL⟩ : ∃ bs, bs = t.data.toList := ⟨_, rfl⟩
  have hLn : bs.length = t.size := by rw [hL]; exact Array.length_toList
  rw [← hL] at hB hdig ⊢
  clear hL
  have hmv : IntKind.u64.wrap (IntKind.u64.wrap 9007199254740992 - 1) = 9007199254740991 := by
    rw [IntKind.wrap_u64, IntKind.wrap_u64]
    decide
  have HD := Lib.hid hdig
  clear hdig
  go_enter Tryz.func135, Tryz.ntmps135
  go_wp2
  go_loop [12, 13, 101] (fun vu vn vi => ∃ (k acc : Nat) (a : Int), vu = .bool false ∧ vn = .int .u64 a ∧ vi = .int .i64 k ∧ k ≤ t.size ∧ Hid (a = (acc : Int) ∧ acc ≤ 9007199254740991 ∧ Lib.parseUintM 9007199254740991 0 bs = Lib.parseUintM 9007199254740991 acc (bs.drop k)))
    (fun _ _ vi => t.size - (intOf vi).toNat)
  case atStart => exact ⟨0, 0, 0, rfl, rfl, rfl, by omega, rfl, by omega, rfl⟩
  case round =>
    obtain ⟨k, acc, a, rfl, rfl, rfl, hk, hh⟩ := hrel
    obtain ⟨ha, hacc, hdec⟩ := hh.out
    clear hh
    have a0 : 0 ≤ a := by omega
    have a1 : a ≤ 9007199254740991 := by omega
    by_cases hkn : k < t.size
    · have hc := hB k hkn
      have hdrop : bs.drop k = bs[k]'(by omega) :: bs.drop (k + 1) := List.drop_eq_getElem_cons (by omega)
      have hget : bs.getD k 0 = bs[k]'(by omega) := by simp [List.getD, List.getElem?_eq_getElem (show k < bs.length by omega)]
      have hdc : isDig (bs[k]'(by omega)) = true := List.all_eq_true.1 HD.out _ (List.getElem_mem _)
      rw [hdrop] at hdec
      rw [hget] at hc
      generalize bs[k]'(by omega) = c at hc hdec hdc
      unfold isDig at hdc
      rw [Bool.and_eq_true] at hdc
      have hd0 := of_decide_eq_true hdc.1
      have hd1 := of_decide_eq_true hdc.2
      have hc256 : c.toNat < 256 := c.toNat_lt
      clear hB hdrop hget hdc
      have hcut : ¬ 1844674407370955162 ≤ acc := by omega
      by_cases hov : 9007199254740991 < acc * 10 + (c.toNat - 48)
      · have hF : Lib.parseUintM 9007199254740991 acc (c :: bs.drop (k + 1)) = .range := by simp [Lib.parseUintM, hd0, hd1, hcut, hov]
        rw [hF] at hdec
        have iov : 9007199254740991 < a * 10 + ((c.toNat : Int) - 48) := by omega
        have HX := Lib.hid hdec
        clear hcut hacc hF hov ha hdec
        go_wp2
        go_ret2
        exact ⟨by rw [HX.out]; rfl, rfl⟩
      · have hF : Lib.parseUintM 9007199254740991 acc (c :: bs.drop (k + 1)) = Lib.parseUintM 9007199254740991 (acc * 10 + (c.toNat - 48)) (bs.drop (k + 1)) := by simp [Lib.parseUintM, hd0, hd1, hcut, hov]
        have HN : Hid (a * 10 + ((c.toNat : Int) - 48) = ((acc * 10 + (c.toNat - 48) : Nat) : Int) ∧ acc * 10 + (c.toNat - 48) ≤ 9007199254740991 ∧ Lib.parseUintM 9007199254740991 0 bs = Lib.parseUintM 9007199254740991 (acc * 10 + (c.toNat - 48)) (bs.drop (k + 1))) := Lib.hid ⟨by omega, by omega, hdec.trans hF⟩
        have iov : a * 10 + ((c.toNat : Int) - 48) ≤ 9007199254740991 := by omega
        clear hcut hacc hF hov hdec ha
        go_wp2
        refine ⟨⟨k + 1, acc * 10 + (c.toNat - 48), a * 10 + ((c.toNat : Int) - 48), rfl, (by first | rfl | (congr 1; omega)), (by first | rfl | (congr 1; omega)), by omega, HN⟩, by simp [intOf]; omega⟩
    · have hkk : k = t.size := by omega
      subst hkk
      have hF : Lib.parseUintM 9007199254740991 acc (bs.drop t.size) = .ok acc := by rw [List.drop_eq_nil_of_le (by omega)]; rfl
      rw [hF] at hdec
      subst ha
      have HX := Lib.hid hdec
      clear hacc hF a0 a1 hdec
      go_wp2
      go_ret2
      exact ⟨by rw [HX.out]; rfl, rfl⟩

theorem bytes_below (w : World) (e : TypeId) (s : ByteArray) : Below w.heap.size w (Lib.bytesWorld w e s) :=
  ⟨rfl, rfl, rfl, by rw [Lib.bytesWorld_size]; omega, fun i hi => Lib.bytesWorld_at_old w e s i hi⟩

/-- where the number has 53 bits -/
theorem uint_ok (t : ByteArray) (hne : t.size ≠ 0) (hmax : t.size < 1073741824) (hdig : t.data.toList.all isDig = true) {u : Nat} (hu : Lib.parseUintM 9007199254740991 0 t.data.toList = .ok u) (w : World) :
    Calls Tryz.prog 113 #[.string t, .int .i64 10, .int .i64 53] w fun e w' => e = .returned (.tuple #[.int .u64 (u : Nat), .nilIface]) ∧ Below w.heap.size w w' := by
  have k : ∀ w, Calls Tryz.prog 135 #[.string t, .int .i64 10, .int .i64 53] w fun e w' => e = .returned (.tuple #[.int .u64 (u : Nat), .nilIface]) ∧ Below w.heap.size w w' := fun w => by
    have h := iuint_any t hne hmax hdig w
    rw [hu] at h
    refine h.mono ?_
    rintro e w' ⟨rfl, rfl⟩
    exact ⟨rfl, bytes_below _ _ _⟩
  go_enter Tryz.func113, Tryz.ntmps113
  go_wp2_with (go_at_call 135; refine (k _).mono ?_; rintro e w' ⟨rfl, hb⟩)
  go_ret2
  exact ⟨rfl, hb⟩

theorem atoi_short (s : ByteArray) (n : Int) (hl : s.size ≤ 18) (h : Lib.atoi s.data.toList = some n) (w : World) :
    Calls Tryz.prog 77 #[.string s] w fun e w' => e = .returned (.tuple #[.int .i64 n, .nilIface]) ∧ Below w.heap.size w w' := by
  have k := Any.strconv_Atoi Tryz.lAtoi s n hl h w
  refine Calls.mono (show Calls Tryz.prog 77 _ _ _ from k) ?_
  rintro e w' ⟨rfl, t, rfl⟩
  exact ⟨rfl, bytes_below _ _ _⟩
end Go.Proofs.YtiidkgdlngcpgaaGreatDoor
