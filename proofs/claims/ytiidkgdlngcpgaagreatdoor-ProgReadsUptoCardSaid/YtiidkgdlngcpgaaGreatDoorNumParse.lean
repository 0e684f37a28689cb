/- Package num's Parse (contract): of any text of fewer than 2^30 bytes it answers 'fparse'. -/
import Derived.Test.YtiidkgdlngcpgaaGreatDoorJb
import Derived.Test.YtiidkgdlngcpgaaGreatDoorNumTabs
import Derived.Test.YtiidkgdlngcpgaaGreatDoorNumUint
import Derived.Shelf.Strconv.AtoiAll
import Derived.Shelf.Strconv.ToErrorRange
import Derived.Shelf.Strings.Search2
import Derived.Shelf.Small.Wraps
import Derived.Shelf.Small.Strs
import Derived.Deep.DeepCutAuto
set_option maxRecDepth 100000
namespace Go.Proofs.YtiidkgdlngcpgaaGreatDoor
open Go.RowKit Ieee

abbrev strOf (l : List UInt8) : ByteArray := ⟨l.toArray⟩
theorem str_list (s : ByteArray) : strOf s.data.toList = s := by
  apply ByteArray.ext
  simp
theorem list_str (l : List UInt8) : (strOf l).data.toList = l := by simp
theorem str_inj {a b : List UInt8} : strOf a = strOf b ↔ a = b := ⟨fun h => by rw [← list_str a, ← list_str b, h], fun h => by rw [h]⟩

/-- strings.Cut at a 'p' -/
def cutP (l : List UInt8) : List UInt8 × List UInt8 × Bool := if Lib.indexByte l 112 < 0 then (l, [], false) else (l.take (Lib.indexByte l 112).toNat, l.drop ((Lib.indexByte l 112).toNat + 1), true)
theorem icut_any (l : List UInt8) (hs : l.length < 1073741824) (w : World) :
    Calls Tryz.prog 104 #[.string (strOf l), .string (strOf [112])] w fun e w' => e = .returned (.tuple #[.string (strOf (cutP l).1), .string (strOf (cutP l).2.1), .bool (cutP l).2.2]) ∧ ∃ n, w' = w.drewN n := by
  have hI := fun w => Any.stringslite_Index_one Tryz.lIndex (strOf l) 112 w
  rw [list_str] at hI
  have hI2 : ∀ w, Calls Tryz.prog 125 #[.string (strOf l), .string (strOf [112])] w fun e w' => e = .returned (.int .i64 (Lib.indexByte l 112)) ∧ w' = w := hI
  have hsz : (strOf l).size = l.length := ba_size l
  rcases index_split l 112 with ⟨h1, h2⟩ | ⟨i, h1, h2, h3, h4⟩
  · have hc : cutP l = (l, [], false) := by
      unfold cutP
      rw [if_pos (by omega)]
    rw [hc]
    rw [h1] at hI2
    have he : strOf [] = { data := #[] } := rfl
    rw [he]
    obtain ⟨S, hS⟩ : ∃ S, S = strOf l := ⟨_, rfl⟩
    rw [← hS] at hI2 ⊢
    clear hI hc h1 h2 hsz hS
    go_enter Tryz.func104, Tryz.ntmps104
    go_wp2_with (go_at_call 125; refine (hI2 _).mono ?_; rintro e w' ⟨rfl, rfl⟩)
    go_ret3
    exact ⟨rfl, 0, rfl⟩
  · have hc : cutP l = (l.take i, l.drop (i + 1), true) := by
      unfold cutP
      rw [if_neg (by omega), h1, Int.toNat_natCast]
    rw [hc]
    rw [h1] at hI2
    have e1 : strOf (l.take i) = (strOf l).extract 0 i := by
      apply ByteArray.ext
      simp [strOf]
    have e2 : strOf (l.drop (i + 1)) = (strOf l).extract (i + 1) (strOf l).size := by
      apply ByteArray.ext
      rw [hsz]
      simp
      rw [List.take_of_length_le (by simp)]
    rw [e1, e2]
    have c1 : (0 : Int) ≤ ↑i := by omega
    have c2 : (↑i : Int) ≤ ↑(strOf l).size := by omega
    have c3 : (0 : Int) ≤ ↑i + 1 := by omega
    have c4 : (↑i + 1 : Int) ≤ ↑(strOf l).size := by omega
    have c5 : (strOf l).size < 1073741824 := by omega
    have hp : (strOf [112]).size = 1 := rfl
    obtain ⟨S, hS⟩ : ∃ S, S = strOf l := ⟨_, rfl⟩
    obtain ⟨PB, hPB⟩ : ∃ S, S = strOf [112] := ⟨_, rfl⟩
    rw [← hS, ← hPB] at hI2 ⊢
    rw [← hS] at c2 c4 c5
    rw [← hPB] at hp
    clear hI hc h1 h2 h3 h4 hsz hS hPB e1 e2 hs
    go_enter Tryz.func104, Tryz.ntmps104
    go_wp2_with (go_at_call 125; refine (hI2 _).mono ?_; rintro e w' ⟨rfl, rfl⟩)
    go_quiet (fail)
    go_wp2
    go_ret3
    exact ⟨by simp, _, rfl⟩
theorem cut_any (l : List UInt8) (hs : l.length < 1073741824) (w : World) :
    Calls Tryz.prog 75 #[.string (strOf l), .string (strOf [112])] w fun e w' => e = .returned (.tuple #[.string (strOf (cutP l).1), .string (strOf (cutP l).2.1), .bool (cutP l).2.2]) ∧ Below w.heap.size w w' := by
  have k := fun w => icut_any l hs w
  obtain ⟨a, ha⟩ : ∃ S, S = strOf l := ⟨_, rfl⟩
  obtain ⟨b, hb⟩ : ∃ S, S = strOf [112] := ⟨_, rfl⟩
  obtain ⟨c, hc⟩ : ∃ S, S = strOf (cutP l).1 := ⟨_, rfl⟩
  obtain ⟨d, hd⟩ : ∃ S, S = strOf (cutP l).2.1 := ⟨_, rfl⟩
  obtain ⟨e, he⟩ : ∃ S, S = (cutP l).2.2 := ⟨_, rfl⟩
  rw [← ha, ← hb, ← hc, ← hd, ← he] at k ⊢
  clear ha hb hc hd he
  go_enter Tryz.func75, Tryz.ntmps75
  go_wp2_with (go_at_call 104; refine (k _).mono ?_; rintro _ _ ⟨rfl, n, rfl⟩)
  go_ret3
  exact ⟨rfl, grow_drewN _ _⟩
theorem cutpre_any (l : List UInt8) (w : World) : Calls Tryz.prog 38 #[.string (strOf l), .string (strOf [45])] w fun e w' => e = .returned (.tuple #[.string (strOf (Lib.trimPrefix l [45])), .bool (Lib.hasPrefix l [45])]) ∧ w' = w := by
  have h := Any.strings_CutPrefix Tryz.lCutPrefix (strOf l) (strOf [45]) w
  rw [list_str, list_str] at h
  exact h
theorem ixbyte_any (c : UInt8) (w : World) : Calls Tryz.prog 112 #[.string (strOf [49, 51, 53, 55, 57]), .int .u8 ((c.toNat : Nat) : Int)] w fun e w' => e = .returned (.int .i64 (Lib.indexByte [49, 51, 53, 55, 57] c)) ∧ w' = w := by
  have h := Any.strings_IndexByte Tryz.lIxByte (strOf [49, 51, 53, 55, 57]) ((c.toNat : Nat) : Int) w
  rw [list_str, Int.toNat_natCast, show c.toNat.toUInt8 = c from UInt8.ofNat_toNat] at h
  exact h

/-! ### the errors -/
def ErrAt (w : World) : Prop := ∃ te pe, w.cell? ⟨5, 0, none⟩ = some (.iface te pe)
theorem err_keep {w x : World} (hb : Below w.heap.size w x) (h : ErrAt w) : ErrAt x := by
  obtain ⟨te, pe, h⟩ := h
  exact ⟨te, pe, cell_keeps hb h⟩
theorem uint_range (t : List UInt8) (hne : t ≠ []) (hmax : t.length < 1073741824) (hdig : t.all isDig = true) (hu : Lib.parseUintM 9007199254740991 0 t = .range) (w : World) (hE : ErrAt w) :
    Calls Tryz.prog 113 #[.string (strOf t), .int .i64 10, .int .i64 53] w fun e w' => (∃ v a, e = .returned (.tuple #[.int .u64 9007199254740991, .iface v (.pointer (some a))])) ∧ Below w.heap.size w w' := by
  have hsz : (strOf t).size = t.length := ba_size t
  have k : ∀ w, Calls Tryz.prog 135 #[.string (strOf t), .int .i64 10, .int .i64 53] w fun e w' => e = .returned (.tuple #[.int .u64 9007199254740991, .iface 148 (.int .i64 1)]) ∧ Below w.heap.size w w' := fun w => by
    have h := iuint_any (strOf t) (by rw [hsz]; intro e; exact hne (List.length_eq_zero_iff.1 e)) (by omega) (by rw [list_str]; exact hdig) w
    rw [list_str, hu] at h
    refine h.mono ?_
    rintro e w' ⟨rfl, rfl⟩
    exact ⟨rfl, bytes_below _ _ _⟩
  have ke : ∀ w, ErrAt w → Calls Tryz.prog 107 #[.string (strOf [80, 97, 114, 115, 101, 85, 105, 110, 116]), .string (strOf t), .int .i64 10, .int .i64 53, .iface 148 (.int .i64 1)] w fun e w' => (∃ v a, e = .returned (.iface v (.pointer (some a)))) ∧ Below w.heap.size w w' := fun w ⟨te, pe, hv⟩ => by
    have h := Any.strconv_toError_range Tryz.lToError (strOf [80, 97, 114, 115, 101, 85, 105, 110, 116]) (strOf t) 10 53 _ w (by omega) hv (.inr ⟨te, pe, rfl⟩)
    refine Calls.mono h ?_
    rintro e w' ⟨N, rfl, _, _, hb⟩
    exact ⟨⟨_, _, rfl⟩, hb⟩
  obtain ⟨S, hS⟩ : ∃ S, S = strOf t := ⟨_, rfl⟩
  obtain ⟨F, hF⟩ : ∃ S, S = strOf [80, 97, 114, 115, 101, 85, 105, 110, 116] := ⟨_, rfl⟩
  have hF2 : F = { data := #[80, 97, 114, 115, 101, 85, 105, 110, 116] } := hF
  rw [← hF, hF2] at ke
  rw [← hS] at k ke ⊢
  clear hS hF hF2 hsz hu hdig hne hmax
  go_enter Tryz.func113, Tryz.ntmps113
  go_wp2_with (go_at_call 135; refine (k _).mono ?_; rintro e w1 ⟨rfl, hb1⟩; have HB1 := Lib.hid hb1; clear hb1)
  go_at_call 107
  refine (ke _ (err_keep HB1.out hE)).mono ?_
  rintro e w2 ⟨⟨v, a, rfl⟩, hb2⟩
  have HB2 := Lib.hid (grow_trans HB1.out hb2)
  clear hb2
  go_wp2
  go_ret2
  exact ⟨⟨v, a, rfl⟩, HB2.out⟩
theorem uint_fits (t : List UInt8) (hne : t ≠ []) (hmax : t.length < 1073741824) (hdig : t.all isDig = true) {u : Nat} (hu : Lib.parseUintM 9007199254740991 0 t = .ok u) (w : World) :
    Calls Tryz.prog 113 #[.string (strOf t), .int .i64 10, .int .i64 53] w fun e w' => e = .returned (.tuple #[.int .u64 (u : Nat), .nilIface]) ∧ Below w.heap.size w w' :=
  uint_ok (strOf t) (by rw [ba_size]; intro e; exact hne (List.length_eq_zero_iff.1 e)) (by rw [ba_size]; exact hmax) (by rw [list_str]; exact hdig) (by rw [list_str]; exact hu) w
theorem atoi_fits (t : List UInt8) (hmax : t.length < 1073741824) {v : Int} (h : Lib.atoiAll t = .ok v) (w : World) :
    Calls Tryz.prog 77 #[.string (strOf t)] w fun e w' => e = .returned (.tuple #[.int .i64 v, .nilIface]) ∧ Below w.heap.size w w' := by
  have k := Any.strconv_Atoi_ok Tryz.lAtoiAll (strOf t) (by rw [ba_size]; omega) v (by rw [list_str]; exact h) w
  refine Calls.mono (show Calls Tryz.prog 77 _ _ _ from k) ?_
  rintro e w' ⟨rfl, rfl | ⟨t, rfl⟩⟩
  · exact ⟨rfl, Below.refl _ _⟩
  · exact ⟨rfl, bytes_below _ _ _⟩
theorem atoi_far (t : List UInt8) (hmax : t.length < 1073741824) (h : Lib.atoiAll t = .range) (w : World) (hE : ErrAt w) :
    Calls Tryz.prog 77 #[.string (strOf t)] w fun e w' => (∃ n v a, e = .returned (.tuple #[.int .i64 n, .iface v (.pointer (some a))])) ∧ Below w.heap.size w w' := by
  obtain ⟨te, pe, hv⟩ := hE
  have k := Any.strconv_Atoi_range Tryz.lAtoiAll (strOf t) (by rw [ba_size]; omega) (by rw [list_str]; exact h) _ w hv (.inr ⟨te, pe, rfl⟩)
  refine Calls.mono (show Calls Tryz.prog 77 _ _ _ from k) ?_
  rintro e w' ⟨N, rfl, _, _, hb⟩
  exact ⟨⟨_, _, _, rfl⟩, hb⟩

end Go.Proofs.YtiidkgdlngcpgaaGreatDoor
