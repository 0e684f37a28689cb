/- The tables that the rows lay: what a world that holds them is. strconv.ParseUint(s, 10, 53) of digits: the number, or the error that it is too great. strconv.Atoi of short numerals. Package num's Parse (contract): of any text of fewer than 2^30 bytes it answers 'fparse'. -/
import Derived.Test.YtdkencepmdfacaaGreatDoorNumText2
import Derived.Test.YtdkencepmdfacaaGreatDoorGr1
import Derived.Test.YtdkencepmdfacaaGreatDoorShelf
import Derived.Lib.Strings
import Derived.Lib.Walk
import Derived.Lib.ConvBytes
import Derived.Lib.ParseIntBMem
import Derived.Laws.Strings3
import Derived.Laws.Closers25
import Derived.Laws.Closers25b
import Derived.BigCall
import Derived.BigGuard
import Derived.Test.YtdkencepmdfacaaGreatDoorGr2
import Derived.Shelf.Strconv.AtoiAll
import Derived.Shelf.Strconv.ToErrorRange
import Derived.Shelf.Strings.Search2
import Derived.Shelf.Small.Wraps
import Derived.Shelf.Small.Strs
import Derived.Deep.DeepCutAuto
set_option maxRecDepth 100000
namespace Go.Proofs.YtdkencepmdfacaaGreatDoor
open Go.RowKit Go.WideShapes Go.ChangeShapes Go.ChangeAt

/-- a contract that draws, as one that grows -/
theorem told_grew {f : FuncId} {args : Array Value} {v : Value} (h : Told f args v) (w : World) : Calls Tryz.prog f args w fun e w' => e = .returned v ∧ Below w.heap.size w w' := (h w).mono fun _ _ ⟨he, n, hw⟩ => ⟨he, by rw [hw]; exact grow_drewN _ _⟩
theorem gPow : Tryz.prog.globalNamed "internal/strconv.uint64pow10" = some 1 := by kernel_rfl
theorem gPowType : (Tryz.prog.globals[1]?).map (·.type) = some 163 := by kernel_rfl
theorem cells20 : Tryz.prog.cellsOf 163 = 20 := by kernel_rfl
theorem cells64u : Tryz.prog.cellsOf 82 = 1 := by kernel_rfl
theorem tabs_of {W : World} (h : laidMetH Tryz.prog laidOf W) : TabsAt W := by
  have h1 : laidMet Tryz.prog laidOf W := h
  have h2 : Lib.TabIs Tryz.prog W "math/bits.deBruijn64tab" .u8 tab64 := Lib.tabIs_of_head gTab gTabType Tryz.underlying172 Tryz.underlying5 cells8 cells64 h1.tail
  have h3 : Lib.TabIs Tryz.prog W "internal/strconv.uint64pow10" .u64 Lib.pow10Tab := Lib.tabIs_of_head gPow gPowType Tryz.underlying163 Tryz.underlying82 cells64u cells20 h1.tail.tail
  exact ⟨h2, h3⟩
end Go.Proofs.YtdkencepmdfacaaGreatDoor

set_option maxRecDepth 100000
namespace Go.Proofs.YtdkencepmdfacaaGreatDoor
open Go.RowKit Go.WideShapes

set_option maxHeartbeats 4000000 in
set_option maxRecDepth 100000 in
theorem iuint_any (t : ByteArray) (hne : t.size ≠ 0) (hmax : t.size < 1073741824) (hdig : t.data.toList.all isDig = true) (w : World) :
    Calls Tryz.prog 178 #[.string t, .int .i64 10, .int .i64 53] w fun e w' => e = .returned (Lib.uintTupleM 181 9007199254740991 (Lib.parseUintM 9007199254740991 0 t.data.toList)) ∧ w' = Lib.bytesWorld w 5 t := by
  have hemp : t.toList.isEmpty = false := by
    cases hc : t.toList with
    | nil =>
      exfalso
      rw [ByteArray.toList_eq] at hc
      have : t.data.toList.length = t.size := Array.length_toList
      rw [hc] at this
      exact hne this.symm
    | cons x l => rfl
  have hcv := Lib.run_convert_string_bytes (P := Tryz.prog) w 9 43 5 t (u := .string) Tryz.underlying9 Tryz.underlying43 Tryz.underlying5
  have hB : ∀ j, j < t.size → (Lib.bytesWorld w 5 t).cell? ⟨w.heap.size, j, none⟩ = some (.int .u8 (t.data.toList.getD j 0).toNat) := fun j hj => Lib.bytesWorld_cell w 5 t j hj
  obtain ⟨W1, hW1⟩ : ∃ W1, W1 = Lib.bytesWorld w 5 t := ⟨_, rfl⟩
  rw [← hW1] at hcv hB ⊢
  clear hW1
  obtain ⟨bs, hL⟩ : ∃ bs, bs = t.data.toList := ⟨_, rfl⟩
  have hLn : bs.length = t.size := by rw [hL]; exact Array.length_toList
  rw [← hL] at hB hdig ⊢
  clear hL
  have hmv : IntKind.u64.wrap (IntKind.u64.wrap 9007199254740992 - 1) = 9007199254740991 := by
    rw [IntKind.wrap_u64, IntKind.wrap_u64]
    decide
  have HD := Lib.hid hdig
  clear hdig
  go_enter Tryz.func178, Tryz.ntmps178
  go_wp2
  go_loop [12, 13, 101] (fun vu vn vi => ∃ (k acc : Nat) (a : Int), vu = .bool false ∧ vn = .int .u64 a ∧ vi = .int .i64 k ∧ k ≤ t.size ∧ Hid (a = (acc : Int) ∧ acc ≤ 9007199254740991 ∧ Lib.parseUintM 9007199254740991 0 bs = Lib.parseUintM 9007199254740991 acc (bs.drop k)))
    (fun _ _ vi => t.size - (intOf vi).toNat)
  case atStart => exact ⟨0, 0, 0, rfl, rfl, rfl, by omega, rfl, by omega, rfl⟩
  case round =>
    obtain ⟨k, acc, a, rfl, rfl, rfl, hk, hh⟩ := hrel
    obtain ⟨ha, hacc, hdec⟩ := hh.out
    clear hh
    have a0 : 0 ≤ a := by omega
    have a1 : a ≤ 9007199254740991 := by omega
    by_cases hkn : k < t.size
    · have hc := hB k hkn
      have hdrop : bs.drop k = bs[k]'(by omega) :: bs.drop (k + 1) := List.drop_eq_getElem_cons (by omega)
      have hget : bs.getD k 0 = bs[k]'(by omega) := by simp [List.getD, List.getElem?_eq_getElem (show k < bs.length by omega)]
      have hdc : isDig (bs[k]'(by omega)) = true := List.all_eq_true.1 HD.out _ (List.getElem_mem _)
      rw [hdrop] at hdec
      rw [hget] at hc
      generalize bs[k]'(by omega) = c at hc hdec hdc
      unfold isDig at hdc
      rw [Bool.and_eq_true] at hdc
      have hd0 := of_decide_eq_true hdc.1
      have hd1 := of_decide_eq_true hdc.2
      have hc256 : c.toNat < 256 := c.toNat_lt
      clear hB hdrop hget hdc
      have hcut : ¬ 1844674407370955162 ≤ acc := by omega
      by_cases hov : 9007199254740991 < acc * 10 + (c.toNat - 48)
      · have hF : Lib.parseUintM 9007199254740991 acc (c :: bs.drop (k + 1)) = .range := by simp [Lib.parseUintM, hd0, hd1, hcut, hov]
        rw [hF] at hdec
        have iov : 9007199254740991 < a * 10 + ((c.toNat : Int) - 48) := by omega
        have HX := Lib.hid hdec
        clear hcut hacc hF hov ha hdec
        go_wp2
        go_ret2
        exact ⟨by rw [HX.out]; rfl, rfl⟩
      · have hF : Lib.parseUintM 9007199254740991 acc (c :: bs.drop (k + 1)) = Lib.parseUintM 9007199254740991 (acc * 10 + (c.toNat - 48)) (bs.drop (k + 1)) := by simp [Lib.parseUintM, hd0, hd1, hcut, hov]
        have HN : Hid (a * 10 + ((c.toNat : Int) - 48) = ((acc * 10 + (c.toNat - 48) : Nat) : Int) ∧ acc * 10 + (c.toNat - 48) ≤ 9007199254740991 ∧ Lib.parseUintM 9007199254740991 0 bs = Lib.parseUintM 9007199254740991 (acc * 10 + (c.toNat - 48)) (bs.drop (k + 1))) := Lib.hid ⟨by omega, by omega, hdec.trans hF⟩
        have iov : a * 10 + ((c.toNat : Int) - 48) ≤ 9007199254740991 := by omega
        clear hcut hacc hF hov hdec ha
        go_wp2
        refine ⟨⟨k + 1, acc * 10 + (c.toNat - 48), a * 10 + ((c.toNat : Int) - 48), rfl, (by first | rfl | (congr 1; omega)), (by first | rfl | (congr 1; omega)), by omega, HN⟩, by simp [intOf]; omega⟩
    · have hkk : k = t.size := by omega
      subst hkk
      have hF : Lib.parseUintM 9007199254740991 acc (bs.drop t.size) = .ok acc := by rw [List.drop_eq_nil_of_le (by omega)]; rfl
      rw [hF] at hdec
      subst ha
      have HX := Lib.hid hdec
      clear hacc hF a0 a1 hdec
      go_wp2
      go_ret2
      exact ⟨by rw [HX.out]; rfl, rfl⟩

theorem bytes_below (w : World) (e : TypeId) (s : ByteArray) : Below w.heap.size w (Lib.bytesWorld w e s) :=
  ⟨rfl, rfl, rfl, by rw [Lib.bytesWorld_size]; omega, fun i hi => Lib.bytesWorld_at_old w e s i hi⟩

/-- where the number has 53 bits -/
theorem uint_ok (t : ByteArray) (hne : t.size ≠ 0) (hmax : t.size < 1073741824) (hdig : t.data.toList.all isDig = true) {u : Nat} (hu : Lib.parseUintM 9007199254740991 0 t.data.toList = .ok u) (w : World) :
    Calls Tryz.prog 183 #[.string t, .int .i64 10, .int .i64 53] w fun e w' => e = .returned (.tuple #[.int .u64 (u : Nat), .nilIface]) ∧ Below w.heap.size w w' := by
  have k : ∀ w, Calls Tryz.prog 178 #[.string t, .int .i64 10, .int .i64 53] w fun e w' => e = .returned (.tuple #[.int .u64 (u : Nat), .nilIface]) ∧ Below w.heap.size w w' := fun w => by
    have h := iuint_any t hne hmax hdig w
    rw [hu] at h
    refine h.mono ?_
    rintro e w' ⟨rfl, rfl⟩
    exact ⟨rfl, bytes_below _ _ _⟩
  go_enter Tryz.func183, Tryz.ntmps183
  go_wp2_with (go_at_call 178; refine (k _).mono ?_; rintro e w' ⟨rfl, hb⟩)
  go_ret2
  exact ⟨rfl, hb⟩

end Go.Proofs.YtdkencepmdfacaaGreatDoor

set_option maxRecDepth 100000
namespace Go.Proofs.YtdkencepmdfacaaGreatDoor
open Go.RowKit Ieee

abbrev strOf (l : List UInt8) : ByteArray := ⟨l.toArray⟩
theorem str_list (s : ByteArray) : strOf s.data.toList = s := by
  apply ByteArray.ext
  simp
theorem list_str (l : List UInt8) : (strOf l).data.toList = l := by simp

/-- strings.Cut at a 'p' -/
def cutP (l : List UInt8) : List UInt8 × List UInt8 × Bool := if Lib.indexByte l 112 < 0 then (l, [], false) else (l.take (Lib.indexByte l 112).toNat, l.drop ((Lib.indexByte l 112).toNat + 1), true)
theorem icut_any (l : List UInt8) (hs : l.length < 1073741824) (w : World) :
    Calls Tryz.prog 48 #[.string (strOf l), .string (strOf [112])] w fun e w' => e = .returned (.tuple #[.string (strOf (cutP l).1), .string (strOf (cutP l).2.1), .bool (cutP l).2.2]) ∧ ∃ n, w' = w.drewN n := by
  have hI := fun w => Any.stringslite_Index_one Tryz.lIndex (strOf l) 112 w
  rw [list_str] at hI
  have hI2 : ∀ w, Calls Tryz.prog 78 #[.string (strOf l), .string (strOf [112])] w fun e w' => e = .returned (.int .i64 (Lib.indexByte l 112)) ∧ w' = w := hI
  have hsz : (strOf l).size = l.length := ba_size l
  rcases index_split l 112 with ⟨h1, h2⟩ | ⟨i, h1, h2, h3, h4⟩
  · have hc : cutP l = (l, [], false) := by
      unfold cutP
      rw [if_pos (by omega)]
    rw [hc]
    rw [h1] at hI2
    have he : strOf [] = { data := #[] } := rfl
    rw [he]
    obtain ⟨S, hS⟩ : ∃ S, S = strOf l := ⟨_, rfl⟩
    rw [← hS] at hI2 ⊢
    clear hI hc h1 h2 hsz hS
    go_enter Tryz.func48, Tryz.ntmps48
    go_wp2_with (go_at_call 78; refine (hI2 _).mono ?_; rintro e w' ⟨rfl, rfl⟩)
    go_ret3
    exact ⟨rfl, 0, rfl⟩
  · have hc : cutP l = (l.take i, l.drop (i + 1), true) := by
      unfold cutP
      rw [if_neg (by omega), h1, Int.toNat_natCast]
    rw [hc]
    rw [h1] at hI2
    have e1 : strOf (l.take i) = (strOf l).extract 0 i := by
      apply ByteArray.ext
      simp [strOf]
    have e2 : strOf (l.drop (i + 1)) = (strOf l).extract (i + 1) (strOf l).size := by
      apply ByteArray.ext
      rw [hsz]
      simp
      rw [List.take_of_length_le (by simp)]
    rw [e1, e2]
    have c1 : (0 : Int) ≤ ↑i := by omega
    have c2 : (↑i : Int) ≤ ↑(strOf l).size := by omega
    have c3 : (0 : Int) ≤ ↑i + 1 := by omega
    have c4 : (↑i + 1 : Int) ≤ ↑(strOf l).size := by omega
    have c5 : (strOf l).size < 1073741824 := by omega
    have hp : (strOf [112]).size = 1 := rfl
    obtain ⟨S, hS⟩ : ∃ S, S = strOf l := ⟨_, rfl⟩
    obtain ⟨PB, hPB⟩ : ∃ S, S = strOf [112] := ⟨_, rfl⟩
    rw [← hS, ← hPB] at hI2 ⊢
    rw [← hS] at c2 c4 c5
    rw [← hPB] at hp
    clear hI hc h1 h2 h3 h4 hsz hS hPB e1 e2 hs
    go_enter Tryz.func48, Tryz.ntmps48
    go_wp2_with (go_at_call 78; refine (hI2 _).mono ?_; rintro e w' ⟨rfl, rfl⟩)
    go_quiet (fail)
    go_wp2
    go_ret3
    exact ⟨by simp, _, rfl⟩
theorem cut_any (l : List UInt8) (hs : l.length < 1073741824) (w : World) :
    Calls Tryz.prog 28 #[.string (strOf l), .string (strOf [112])] w fun e w' => e = .returned (.tuple #[.string (strOf (cutP l).1), .string (strOf (cutP l).2.1), .bool (cutP l).2.2]) ∧ Below w.heap.size w w' := by
  have k := fun w => icut_any l hs w
  obtain ⟨a, ha⟩ : ∃ S, S = strOf l := ⟨_, rfl⟩
  obtain ⟨b, hb⟩ : ∃ S, S = strOf [112] := ⟨_, rfl⟩
  obtain ⟨c, hc⟩ : ∃ S, S = strOf (cutP l).1 := ⟨_, rfl⟩
  obtain ⟨d, hd⟩ : ∃ S, S = strOf (cutP l).2.1 := ⟨_, rfl⟩
  obtain ⟨e, he⟩ : ∃ S, S = (cutP l).2.2 := ⟨_, rfl⟩
  rw [← ha, ← hb, ← hc, ← hd, ← he] at k ⊢
  clear ha hb hc hd he
  go_enter Tryz.func28, Tryz.ntmps28
  go_wp2_with (go_at_call 48; refine (k _).mono ?_; rintro _ _ ⟨rfl, n, rfl⟩)
  go_ret3
  exact ⟨rfl, grow_drewN _ _⟩
theorem cutpre_any (l : List UInt8) (w : World) : Calls Tryz.prog 51 #[.string (strOf l), .string (strOf [45])] w fun e w' => e = .returned (.tuple #[.string (strOf (Lib.trimPrefix l [45])), .bool (Lib.hasPrefix l [45])]) ∧ w' = w := by
  have h := Any.strings_CutPrefix Tryz.lCutPrefix (strOf l) (strOf [45]) w
  rw [list_str, list_str] at h
  exact h
theorem ixbyte_any (c : UInt8) (w : World) : Calls Tryz.prog 133 #[.string (strOf [49, 51, 53, 55, 57]), .int .u8 ((c.toNat : Nat) : Int)] w fun e w' => e = .returned (.int .i64 (Lib.indexByte [49, 51, 53, 55, 57] c)) ∧ w' = w := by
  have h := Any.strings_IndexByte Tryz.lIxByte (strOf [49, 51, 53, 55, 57]) ((c.toNat : Nat) : Int) w
  rw [list_str, Int.toNat_natCast, show c.toNat.toUInt8 = c from UInt8.ofNat_toNat] at h
  exact h

/-! ### the errors -/
def ErrAt (w : World) : Prop := ∃ te pe, w.cell? ⟨7, 0, none⟩ = some (.iface te pe)
theorem err_keep {w x : World} (hb : Below w.heap.size w x) (h : ErrAt w) : ErrAt x := by
  obtain ⟨te, pe, h⟩ := h
  exact ⟨te, pe, cell_keeps hb h⟩
theorem uint_range (t : List UInt8) (hne : t ≠ []) (hmax : t.length < 1073741824) (hdig : t.all isDig = true) (hu : Lib.parseUintM 9007199254740991 0 t = .range) (w : World) (hE : ErrAt w) :
    Calls Tryz.prog 183 #[.string (strOf t), .int .i64 10, .int .i64 53] w fun e w' => (∃ v a, e = .returned (.tuple #[.int .u64 9007199254740991, .iface v (.pointer (some a))])) ∧ Below w.heap.size w w' := by
  have hsz : (strOf t).size = t.length := ba_size t
  have k : ∀ w, Calls Tryz.prog 178 #[.string (strOf t), .int .i64 10, .int .i64 53] w fun e w' => e = .returned (.tuple #[.int .u64 9007199254740991, .iface 181 (.int .i64 1)]) ∧ Below w.heap.size w w' := fun w => by
    have h := iuint_any (strOf t) (by rw [hsz]; intro e; exact hne (List.length_eq_zero_iff.1 e)) (by omega) (by rw [list_str]; exact hdig) w
    rw [list_str, hu] at h
    refine h.mono ?_
    rintro e w' ⟨rfl, rfl⟩
    exact ⟨rfl, bytes_below _ _ _⟩
  have ke : ∀ w, ErrAt w → Calls Tryz.prog 126 #[.string (strOf [80, 97, 114, 115, 101, 85, 105, 110, 116]), .string (strOf t), .int .i64 10, .int .i64 53, .iface 181 (.int .i64 1)] w fun e w' => (∃ v a, e = .returned (.iface v (.pointer (some a)))) ∧ Below w.heap.size w w' := fun w ⟨te, pe, hv⟩ => by
    have h := Any.strconv_toError_range Tryz.lToError (strOf [80, 97, 114, 115, 101, 85, 105, 110, 116]) (strOf t) 10 53 _ w (by omega) hv (.inr ⟨te, pe, rfl⟩)
    refine Calls.mono h ?_
    rintro e w' ⟨N, rfl, _, _, hb⟩
    exact ⟨⟨_, _, rfl⟩, hb⟩
  obtain ⟨S, hS⟩ : ∃ S, S = strOf t := ⟨_, rfl⟩
  obtain ⟨F, hF⟩ : ∃ S, S = strOf [80, 97, 114, 115, 101, 85, 105, 110, 116] := ⟨_, rfl⟩
  have hF2 : F = { data := #[80, 97, 114, 115, 101, 85, 105, 110, 116] } := hF
  rw [← hF, hF2] at ke
  rw [← hS] at k ke ⊢
  clear hS hF hF2 hsz hu hdig hne hmax
  go_enter Tryz.func183, Tryz.ntmps183
  go_wp2_with (go_at_call 178; refine (k _).mono ?_; rintro e w1 ⟨rfl, hb1⟩; have HB1 := Lib.hid hb1; clear hb1)
  go_at_call 126
  refine (ke _ (err_keep HB1.out hE)).mono ?_
  rintro e w2 ⟨⟨v, a, rfl⟩, hb2⟩
  have HB2 := Lib.hid (grow_trans HB1.out hb2)
  clear hb2
  go_wp2
  go_ret2
  exact ⟨⟨v, a, rfl⟩, HB2.out⟩
theorem uint_fits (t : List UInt8) (hne : t ≠ []) (hmax : t.length < 1073741824) (hdig : t.all isDig = true) {u : Nat} (hu : Lib.parseUintM 9007199254740991 0 t = .ok u) (w : World) :
    Calls Tryz.prog 183 #[.string (strOf t), .int .i64 10, .int .i64 53] w fun e w' => e = .returned (.tuple #[.int .u64 (u : Nat), .nilIface]) ∧ Below w.heap.size w w' :=
  uint_ok (strOf t) (by rw [ba_size]; intro e; exact hne (List.length_eq_zero_iff.1 e)) (by rw [ba_size]; exact hmax) (by rw [list_str]; exact hdig) (by rw [list_str]; exact hu) w
theorem atoi_fits (t : List UInt8) (hmax : t.length < 1073741824) {v : Int} (h : Lib.atoiAll t = .ok v) (w : World) :
    Calls Tryz.prog 80 #[.string (strOf t)] w fun e w' => e = .returned (.tuple #[.int .i64 v, .nilIface]) ∧ Below w.heap.size w w' := by
  have k := Any.strconv_Atoi_ok Tryz.lAtoiAll (strOf t) (by rw [ba_size]; omega) v (by rw [list_str]; exact h) w
  refine Calls.mono (show Calls Tryz.prog 80 _ _ _ from k) ?_
  rintro e w' ⟨rfl, rfl | ⟨t, rfl⟩⟩
  · exact ⟨rfl, Below.refl _ _⟩
  · exact ⟨rfl, bytes_below _ _ _⟩
theorem atoi_far (t : List UInt8) (hmax : t.length < 1073741824) (h : Lib.atoiAll t = .range) (w : World) (hE : ErrAt w) :
    Calls Tryz.prog 80 #[.string (strOf t)] w fun e w' => (∃ n v a, e = .returned (.tuple #[.int .i64 n, .iface v (.pointer (some a))])) ∧ Below w.heap.size w w' := by
  obtain ⟨te, pe, hv⟩ := hE
  have k := Any.strconv_Atoi_range Tryz.lAtoiAll (strOf t) (by rw [ba_size]; omega) (by rw [list_str]; exact h) _ w hv (.inr ⟨te, pe, rfl⟩)
  refine Calls.mono (show Calls Tryz.prog 80 _ _ _ from k) ?_
  rintro e w' ⟨N, rfl, _, _, hb⟩
  exact ⟨⟨_, _, _, rfl⟩, hb⟩

end Go.Proofs.YtdkencepmdfacaaGreatDoor
