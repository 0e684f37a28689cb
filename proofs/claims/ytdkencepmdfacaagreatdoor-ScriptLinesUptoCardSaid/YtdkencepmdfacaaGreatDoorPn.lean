/- Package prog's number, strings.Cut at an end of line, strings.CutPrefix, strings.Split at a blank (contracts); the error of a text that is no number. -/
import Derived.Test.YtdkencepmdfacaaGreatDoorNumUpto
import Derived.Test.YtdkencepmdfacaaGreatDoorQa
import Derived.Test.YtdkencepmdfacaaGreatDoorShelf
import Derived.Shelf.Strconv.AtoiAll
set_option maxRecDepth 100000
namespace Go.Proofs.YtdkencepmdfacaaGreatDoor
open Go.RowKit Go.WideShapes Go.ChangeShapes Go.ChangeAt Ieee

theorem gSyn : Tryz.prog.globalNamed "strconv.ErrSyntax" = some 6 := by kernel_rfl
theorem gSynType : (Tryz.prog.globals[6]?).map (·.type) = some 47 := by kernel_rfl
def SynAt (w : World) : Prop := ∃ te pe, w.cell? ⟨6, 0, none⟩ = some (.iface te pe)
theorem syn_keep {w x : World} (hb : Below w.heap.size w x) (h : SynAt w) : SynAt x := by
  obtain ⟨te, pe, h⟩ := h
  exact ⟨te, pe, cell_keeps hb h⟩
theorem syn_of {W : World} (h : laidMetH Tryz.prog laidOf W) : SynAt W := by
  have h1 : laidMet Tryz.prog laidOf W := h
  obtain ⟨a, s, hv, _, _, _⟩ := laid_sentinel (P := Tryz.prog) (tp := 212) (te := 214) (ts := 9) h1.tail.tail.tail.tail.tail gSyn gSynType Tryz.underlying47 errRow Tryz.underlying212 Tryz.underlying214 rfl rfl Tryz.underlying9 (by kernel_rfl) (by kernel_rfl)
  exact ⟨_, _, World.var?_cell gSyn hv 0⟩
/-- what laid variables a text's readers read -/
structure AllAt (w : World) : Prop where
  tabs : TabsAt w
  rng : ErrAt w
  syn : SynAt w
theorem AllAt.keep {w x : World} (h : AllAt w) (hb : Below w.heap.size w x) : AllAt x := ⟨tabs_keep hb h.tabs, err_keep hb h.rng, syn_keep hb h.syn⟩

theorem end_cases (r : Lib.NumEnd Int) : (∃ v, r = .ok v) ∨ r = .range ∨ r = Lib.atoiAll [] := by
  cases r
  all_goals first | exact .inl ⟨_, rfl⟩ | exact .inr (.inl rfl) | exact .inr (.inr rfl)
theorem atoi_bad (t : List UInt8) (hmax : t.length < 1073741824) (h : Lib.atoiAll t = Lib.atoiAll []) (w : World) (hE : SynAt w) :
    Calls Tryz.prog 80 #[.string (strOf t)] w fun e w' => (∃ n v a, e = .returned (.tuple #[.int .i64 n, .iface v (.pointer (some a))])) ∧ Below w.heap.size w w' := by
  obtain ⟨te, pe, hv⟩ := hE
  have k := Any.strconv_Atoi_syntax Tryz.lAtoiAll (strOf t) (by rw [ba_size]; omega) (by rw [list_str]; exact h) _ w hv (.inr ⟨te, pe, rfl⟩)
  refine Calls.mono (show Calls Tryz.prog 80 _ _ _ from k) ?_
  rintro e w' ⟨N, rfl, _, _, hb⟩
  exact ⟨⟨_, _, _, rfl⟩, hb⟩
theorem atoi_canon {l : List UInt8} {m : Nat} (h : numOf l = some m) : Lib.atoiAll l = .ok (m : Int) ∧ m < 1000000000 ∧ l.length ≤ 9 := by
  have hs := numOf_some h
  have hm : m < 1000000000 := le_digits 8 m (by rw [← Lib.decDigits_length, hs.1]; exact hs.2)
  refine ⟨?_, hm, hs.2⟩
  unfold numOf at h
  split at h
  · rename_i hc
    injection h with h
    have hd := canon_digs hc.2
    have hmag : Lib.parseMag l = if dval l < 18446744073709551616 then .ok (dval l) else .range := by
      unfold Lib.parseMag
      rw [if_neg hd.2]
      exact parseUint10_dig l 0 hd.1 (by decide)
    cases he2 : l with
    | nil => exact absurd he2 hd.2
    | cons c r =>
      have hdc := hd.1
      rw [he2, List.all_cons, Bool.and_eq_true] at hdc
      have hr := dig_range hdc.1
      have hn : ¬ (c.toNat = 43 ∨ c.toNat = 45) := by omega
      have hn2 : ¬ c.toNat = 45 := by omega
      rw [he2] at hmag h
      rw [atoi_ok (c := c) (r := r) (u := dval (c :: r)) (by rw [if_neg hn, hmag, if_pos (by omega)]), if_neg (fun hh => by omega), if_neg (fun hh => hn2 hh.1), if_neg hn2, h]
  · cases h
theorem atoi_itoa {l : List UInt8} {v : Int} (h : numOf l = none) (hv : 0 ≤ v) (hl : l.length ≤ 9) : Lib.itoa v ≠ l := by
  intro e
  unfold Lib.itoa at e
  rw [if_neg (by omega)] at e
  rw [← e, numOf_dec (by rw [e]; exact hl)] at h
  cases h
theorem itoa_num {l : List UInt8} {m : Nat} (h : numOf l = some m) : Lib.itoa (m : Int) = l := by
  unfold Lib.itoa
  rw [if_neg (by omega), Int.toNat_natCast]
  exact (numOf_some h).1
theorem atoi_bound {l : List UInt8} {v : Int} (h : Lib.atoiAll l = .ok v) : -9223372036854775808 ≤ v ∧ v ≤ 9223372036854775807 := by
  unfold Lib.atoiAll at h
  split at h
  · cases h
  · dsimp only at h
    split at h
    · cases h
    · cases h
    · split at h
      · cases h
      split at h
      · cases h
      injection h with h
      split at h <;> omega
theorem pnum_some {l : List UInt8} {m : Nat} (hs : l.length < 1073741824) (hn : numOf l = some m) (w : World) (hA : AllAt w) :
    Calls Tryz.prog 129 #[.string (strOf l)] w fun e w' => e = .returned (.tuple #[.int .i64 (m : Nat), .bool true]) ∧ Below w.heap.size w w' := by
  have hsz : (strOf l).size = l.length := ba_size l
  obtain ⟨h1, h2, h3⟩ := atoi_canon hn
  have k1 := atoi_fits l hs h1 w
  have k2 := fun W (hW : TabsAt W) => itoa_is (n := (m : Int)) (by omega) (by omega) W hW
  rw [itoa_num hn] at k2
  have HT := Lib.hid hA.tabs
  have hlen : ¬ (9 : Int) < ((strOf l).size : Int) := by omega
  have hlen2 : ((strOf l).size : Int) ≤ 9 := by omega
  have hm0 : (0 : Int) ≤ (m : Int) := by omega
  obtain ⟨S, hS⟩ : ∃ S, S = strOf l := ⟨_, rfl⟩
  rw [← hS] at k1 hlen hlen2 ⊢
  rw [show (⟨l.toArray⟩ : ByteArray) = S from hS.symm] at k2
  have K2 := Lib.hid k2
  clear k2 hS hsz hn h1 h2 h3 hs hA
  go_enter Tryz.func129, Tryz.ntmps129
  go_wp2_with (first | (go_at_call 80; refine k1.mono ?_; rintro _ w1 ⟨rfl, hb1⟩; have HB1 := Lib.hid hb1; have HT1 := Lib.hid (tabs_keep hb1 HT.out); clear hb1) | (go_at_call 17; go_loud (refine (K2.out _ HT1.out).mono ?_); rintro _ w2 ⟨rfl, hb2⟩; have HB2 := Lib.hid (grow_trans HB1.out hb2); clear hb2))
  go_ret2
  exact ⟨rfl, HB2.out⟩
theorem pnum_none {l : List UInt8} (hs : l.length < 1073741824) (hn : numOf l = none) (w : World) (hA : AllAt w) :
    Calls Tryz.prog 129 #[.string (strOf l)] w fun e w' => (∃ n : Int, e = .returned (.tuple #[.int .i64 n, .bool false])) ∧ Below w.heap.size w w' := by
  have hsz : (strOf l).size = l.length := ba_size l
  rcases end_cases (Lib.atoiAll l) with ⟨v, hv⟩ | hv
  · obtain ⟨b1, b2⟩ := atoi_bound hv
    have k1 := atoi_fits l hs hv w
    have k2 := fun W (hW : TabsAt W) => itoa_is (n := v) b1 b2 W hW
    have HT := Lib.hid hA.tabs
    by_cases c0 : 0 ≤ v
    · by_cases c1 : ((strOf l).size : Int) ≤ 9
      · have hne := atoi_itoa hn c0 (by omega)
        have c2 : ¬ (9 : Int) < ((strOf l).size : Int) := by omega
        have hself : ((⟨(Lib.itoa v).toArray⟩ : ByteArray).toList == (strOf l).toList) = false := by
          rw [beq_eq_false_iff_ne, show (⟨(Lib.itoa v).toArray⟩ : ByteArray).toList = Lib.itoa v from str_toList _, str_toList]
          exact hne
        obtain ⟨S, hS⟩ : ∃ S, S = strOf l := ⟨_, rfl⟩
        obtain ⟨I, hI⟩ : ∃ I : ByteArray, I = ⟨(Lib.itoa v).toArray⟩ := ⟨_, rfl⟩
        rw [← hI] at k2 hself
        rw [← hS] at k1 c1 c2 hself ⊢
        have K2 := Lib.hid k2
        clear k2 hS hI hsz hn hv hne hs hA b1 b2
        go_enter Tryz.func129, Tryz.ntmps129
        go_wp2_with (first | (go_at_call 80; refine k1.mono ?_; rintro _ w1 ⟨rfl, hb1⟩; have HB1 := Lib.hid hb1; have HT1 := Lib.hid (tabs_keep hb1 HT.out); clear hb1) | (go_at_call 17; go_loud (refine (K2.out _ HT1.out).mono ?_); rintro _ w2 ⟨rfl, hb2⟩; have HB2 := Lib.hid (grow_trans HB1.out hb2); clear hb2))
        go_ret2
        exact ⟨⟨_, rfl⟩, HB2.out⟩
      · have c2 : (9 : Int) < ((strOf l).size : Int) := by omega
        obtain ⟨S, hS⟩ : ∃ S, S = strOf l := ⟨_, rfl⟩
        rw [← hS] at k1 c1 c2 ⊢
        clear hS hsz hn hv hs hA b1 b2
        go_enter Tryz.func129, Tryz.ntmps129
        go_wp2_with (first | (go_at_call 80; refine k1.mono ?_; rintro _ w1 ⟨rfl, hb1⟩; have HB1 := Lib.hid hb1; clear hb1))
        go_ret2
        exact ⟨⟨_, rfl⟩, HB1.out⟩
    · have c1 : v < 0 := by omega
      obtain ⟨S, hS⟩ : ∃ S, S = strOf l := ⟨_, rfl⟩
      rw [← hS] at k1 ⊢
      clear hS hsz hn hv hs hA b1 b2
      go_enter Tryz.func129, Tryz.ntmps129
      go_wp2_with (first | (go_at_call 80; refine k1.mono ?_; rintro _ w1 ⟨rfl, hb1⟩; have HB1 := Lib.hid hb1; clear hb1))
      go_ret2
      exact ⟨⟨_, rfl⟩, HB1.out⟩
  · have k1 : Calls Tryz.prog 80 #[.string (strOf l)] w fun e w' => (∃ n v a, e = .returned (.tuple #[.int .i64 n, .iface v (.pointer (some a))])) ∧ Below w.heap.size w w' := by
      rcases hv with hv | hv
      · exact atoi_far l hs hv w hA.rng
      · exact atoi_bad l hs hv w hA.syn
    obtain ⟨S, hS⟩ : ∃ S, S = strOf l := ⟨_, rfl⟩
    rw [← hS] at k1 ⊢
    clear hS hsz hn hv hs hA
    go_enter Tryz.func129, Tryz.ntmps129
    go_wp2_with (first | (go_at_call 80; refine k1.mono ?_; rintro _ w1 ⟨⟨n, v, a, rfl⟩, hb1⟩; have HB1 := Lib.hid hb1; clear hb1))
    go_ret2
    exact ⟨⟨_, rfl⟩, HB1.out⟩
/-- prog.number answers numOf -/
theorem pnum_any (l : List UInt8) (hs : l.length < 1073741824) (w : World) (hA : AllAt w) :
    Calls Tryz.prog 129 #[.string (strOf l)] w fun e w' => (∃ n : Int, e = .returned (.tuple #[.int .i64 n, .bool (numOf l).isSome]) ∧ (∀ m, numOf l = some m → n = (m : Int))) ∧ Below w.heap.size w w' := by
  cases hn : numOf l with
  | some m => exact (pnum_some hs hn w hA).mono fun e w' h => ⟨⟨_, h.1, fun m' h2 => by injection h2 with h2; rw [h2]⟩, h.2⟩
  | none => exact (pnum_none hs hn w hA).mono fun e w' h => ⟨h.1.imp fun n h1 => ⟨h1, fun m' h2 => by cases h2⟩, h.2⟩

/-- strings.Cut at an end of line -/
def cutT (c : UInt8) (l : List UInt8) : List UInt8 × List UInt8 × Bool := if Lib.indexByte l c < 0 then (l, [], false) else (l.take (Lib.indexByte l c).toNat, l.drop ((Lib.indexByte l c).toNat + 1), true)
theorem icutT_any (c : UInt8) (l : List UInt8) (hs : l.length < 1073741824) (w : World) :
    Calls Tryz.prog 48 #[.string (strOf l), .string (strOf [c])] w fun e w' => e = .returned (.tuple #[.string (strOf (cutT c l).1), .string (strOf (cutT c l).2.1), .bool (cutT c l).2.2]) ∧ ∃ n, w' = w.drewN n := by
  have hI := fun w => Any.stringslite_Index_one Tryz.lIndex (strOf l) c w
  rw [list_str] at hI
  have hI2 : ∀ w, Calls Tryz.prog 78 #[.string (strOf l), .string (strOf [c])] w fun e w' => e = .returned (.int .i64 (Lib.indexByte l c)) ∧ w' = w := hI
  have hsz : (strOf l).size = l.length := ba_size l
  rcases index_split l c with ⟨h1, h2⟩ | ⟨i, h1, h2, h3, h4⟩
  · have hc : cutT c l = (l, [], false) := by
      unfold cutT
      rw [if_pos (by omega)]
    rw [hc]
    rw [h1] at hI2
    have he : strOf [] = { data := #[] } := rfl
    rw [he]
    obtain ⟨S, hS⟩ : ∃ S, S = strOf l := ⟨_, rfl⟩
    obtain ⟨PB, hPB⟩ : ∃ S, S = strOf [c] := ⟨_, rfl⟩
    rw [← hS, ← hPB] at hI2 ⊢
    clear hI hc h1 h2 hsz hS hPB
    go_enter Tryz.func48, Tryz.ntmps48
    go_wp2_with (go_at_call 78; refine (hI2 _).mono ?_; rintro e w' ⟨rfl, rfl⟩)
    go_ret3
    exact ⟨rfl, 0, rfl⟩
  · have hc : cutT c l = (l.take i, l.drop (i + 1), true) := by
      unfold cutT
      rw [if_neg (by omega), h1, Int.toNat_natCast]
    rw [hc]
    rw [h1] at hI2
    have e1 : strOf (l.take i) = (strOf l).extract 0 i := by
      apply ByteArray.ext
      simp [strOf]
    have e2 : strOf (l.drop (i + 1)) = (strOf l).extract (i + 1) (strOf l).size := by
      apply ByteArray.ext
      rw [hsz]
      simp
      rw [List.take_of_length_le (by simp)]
    rw [e1, e2]
    have c1 : (0 : Int) ≤ ↑i := by omega
    have c2 : (↑i : Int) ≤ ↑(strOf l).size := by omega
    have c3 : (0 : Int) ≤ ↑i + 1 := by omega
    have c4 : (↑i + 1 : Int) ≤ ↑(strOf l).size := by omega
    have c5 : (strOf l).size < 1073741824 := by omega
    have hp : (strOf [c]).size = 1 := rfl
    obtain ⟨S, hS⟩ : ∃ S, S = strOf l := ⟨_, rfl⟩
    obtain ⟨PB, hPB⟩ : ∃ S, S = strOf [c] := ⟨_, rfl⟩
    rw [← hS, ← hPB] at hI2 ⊢
    rw [← hS] at c2 c4 c5
    rw [← hPB] at hp
    clear hI hc h1 h2 h3 h4 hsz hS hPB e1 e2 hs
    go_enter Tryz.func48, Tryz.ntmps48
    go_wp2_with (go_at_call 78; refine (hI2 _).mono ?_; rintro e w' ⟨rfl, rfl⟩)
    go_quiet (fail)
    go_wp2
    go_ret3
    exact ⟨by simp, _, rfl⟩
theorem cutT_any (c : UInt8) (l : List UInt8) (hs : l.length < 1073741824) (w : World) :
    Calls Tryz.prog 28 #[.string (strOf l), .string (strOf [c])] w fun e w' => e = .returned (.tuple #[.string (strOf (cutT c l).1), .string (strOf (cutT c l).2.1), .bool (cutT c l).2.2]) ∧ ∃ n, w' = w.drewN n := by
  have k := fun w => icutT_any c l hs w
  obtain ⟨a, ha⟩ : ∃ S, S = strOf l := ⟨_, rfl⟩
  obtain ⟨b, hb⟩ : ∃ S, S = strOf [c] := ⟨_, rfl⟩
  obtain ⟨x, hx⟩ : ∃ S, S = strOf (cutT c l).1 := ⟨_, rfl⟩
  obtain ⟨d, hd⟩ : ∃ S, S = strOf (cutT c l).2.1 := ⟨_, rfl⟩
  obtain ⟨e, he⟩ : ∃ S, S = (cutT c l).2.2 := ⟨_, rfl⟩
  rw [← ha, ← hb, ← hx, ← hd, ← he] at k ⊢
  clear ha hb hx hd he
  go_enter Tryz.func28, Tryz.ntmps28
  go_wp2_with (go_at_call 48; refine (k _).mono ?_; rintro _ _ ⟨rfl, n, rfl⟩)
  go_ret3
  exact ⟨rfl, n, rfl⟩
theorem cutT_cases (c : UInt8) (l : List UInt8) : (cutT c l = (l, [], false) ∧ spl c l = [l]) ∨ ∃ a b, cutT c l = (a, b, true) ∧ spl c l = a :: spl c b ∧ a.length + b.length < l.length := by
  rcases index_split l c with ⟨h1, h2⟩ | ⟨i, h1, h2, h3, h4⟩
  · refine .inl ⟨?_, spl_none h2⟩
    unfold cutT
    rw [if_pos (by omega)]
  · refine .inr ⟨l.take i, l.drop (i + 1), ?_, ?_, ?_⟩
    · unfold cutT
      rw [if_neg (by omega), h1, Int.toNat_natCast]
    · conv => lhs; rw [h3]
      exact spl_app _ h4
    · rw [List.length_take, List.length_drop]
      omega
/-- strings.CutPrefix at "fuel " -/
theorem cutfuel_any (l : List UInt8) (w : World) : Calls Tryz.prog 51 #[.string (strOf l), .string (strOf fuelW)] w fun e w' => e = .returned (.tuple #[.string (strOf (Lib.trimPrefix l fuelW)), .bool (Lib.hasPrefix l fuelW)]) ∧ w' = w := by
  have h := Any.strings_CutPrefix Tryz.lCutPrefix (strOf l) (strOf fuelW) w
  rw [list_str, list_str] at h
  exact h
end Go.Proofs.YtdkencepmdfacaaGreatDoor
