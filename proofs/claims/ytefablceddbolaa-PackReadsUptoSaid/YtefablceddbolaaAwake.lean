/- known, names, awake: the calls whose answers the document fixes. -/
import Derived.Test.YtefablceddbolaaLay
import Derived.Test.YtefablceddbolaaMeth
import Derived.Test.YtefablceddbolaaMore
namespace Go.Proofs.Ytefablceddbolaa
open Go.RowKit

theorem f_300 : str (vb 300) = ⟨#[172, 2]⟩ := by rw [vb_ge (by decide), vb_lt (by decide)]; rfl
theorem f_a : str (tb [97]) = ⟨#[1, 97]⟩ := by
  unfold tb
  rw [vb_lt (by decide)]
  rfl
theorem f_bits : (str (bb 1)).size = 8 := by rw [str_size, bb_len]
theorem f_num : rdrStep 0 (upR (numR ((ByteArray.mk #[172, 2, 1, 97]).data.toList.drop 0) 300 21)) 0 0 = ((300 : Int), 2, 0) := by decide
theorem f_text : rdrStep (⟨#[]⟩ : ByteArray) (textR ((ByteArray.mk #[172, 2, 1, 97]).data.toList.drop 2) (1 : Int).toNat) 2 0 = (⟨#[97]⟩, 4, 0) := rfl
theorem f_wide : rdrStep 0 (upR (numR ((ByteArray.mk #[5]).data.toList.drop 0) 4 21)) 0 0 = ((0 : Int), 0, 21) := by decide

set_option maxHeartbeats 1000000 in
theorem known_any (w : World) : Calls Try.prog 30 #[] w fun e w' => e = .returned (.bool true) ∧ Below w.heap.size w w' := by
  go_enter Try.func30, Try.ntmps30
  go_wp2_with fail
  refine (read_any _ _).mono ?_
  rintro e w1 ⟨rfl, hR1, hb1, hs1⟩
  have HS := Lib.hid hs1
  clear hs1
  go_wp2_with fail
  refine (Num_any 300 _ (by decide)).mono ?_
  rintro e w2 ⟨rfl, hb2⟩
  rw [f_300]
  go_wp2_with fail
  refine (Text_any ⟨#[97]⟩ _ (by decide)).mono ?_
  rintro e w3 ⟨rfl, hb3⟩
  rw [show str (tb (ByteArray.mk #[97]).data.toList) = ⟨#[1, 97]⟩ from f_a]
  go_wp2_with fail
  refine (Bits_any 1 _ (by decide)).mono ?_
  rintro e w4 ⟨rfl, hb4⟩
  have hbs := f_bits
  have hlt : w.heap.size < w1.heap.size := by have := HS.out; omega
  have hR4 : Rdr w4 w.heap.size ⟨#[172, 2, 1, 97]⟩ 0 0 := ((hR1.below hb2 hlt).below hb3 (Nat.lt_of_lt_of_le hlt hb2.size)).below hb4 (Nat.lt_of_lt_of_le hlt (Nat.le_trans hb2.size hb3.size))
  have hB4 : Below w.heap.size w w4 := ((hb1.trans (hb2.mono hb1.size)).trans (hb3.mono (Nat.le_trans hb1.size hb2.size))).trans (hb4.mono (Nat.le_trans hb1.size (Nat.le_trans hb2.size hb3.size)))
  go_wp2_with fail
  refine (rNum w.heap.size ⟨#[172, 2, 1, 97]⟩ 0 0 300 _ hR4 (by decide) (by decide) (by decide)).mono ?_
  rw [f_num]
  rintro e w5 ⟨rfl, hR5, hg5⟩
  go_wp2_with fail
  refine (rText w.heap.size ⟨#[172, 2, 1, 97]⟩ 2 0 1 _ hR5 (by decide) (by decide) (by decide)).mono ?_
  rw [f_text]
  rintro e w6 ⟨rfl, hR6, hg6⟩
  go_wp2_with fail
  refine (end_any _ _ _ _ _ hR6).mono ?_
  rintro e w7 ⟨rfl, n, rfl⟩
  rw [show endE ⟨#[172, 2, 1, 97]⟩ 4 0 = 0 from rfl, show endP ⟨#[172, 2, 1, 97]⟩ 4 0 = 0 from rfl]
  go_wp2_with fail
  refine (at_any _ _ _ _ _ (hR6.drewN n)).mono ?_
  rintro e w8 ⟨rfl, rfl⟩
  go_wp2_with fail
  refine (left_any _ _ _ _ _ (hR6.drewN n) (by decide) (by decide)).mono ?_
  rintro e w9 ⟨rfl, m, rfl⟩
  go_wp2
  go_ret
  exact ⟨rfl, below_drewN ((hB4.trans (below_of_only hg5 (Nat.le_refl _) hB4.size)).trans (below_of_only hg6 (Nat.le_refl _) (Nat.le_trans hB4.size hg5.size))) _⟩

set_option maxHeartbeats 1000000 in
theorem names_any (w : World) : Calls Try.prog 31 #[] w fun e w' => e = .returned (.bool true) ∧ Below w.heap.size w w' := by
  go_enter Try.func31, Try.ntmps31
  go_wp2_with fail
  refine (read_any _ _).mono ?_
  rintro e w1 ⟨rfl, hR1, hb1, hs1⟩
  have HS := Lib.hid hs1
  clear hs1
  go_wp2_with fail
  refine (known_any _).mono ?_
  rintro e w2 ⟨rfl, hb2⟩
  have hlt : w.heap.size < w1.heap.size := by have := HS.out; omega
  have hR2 := hR1.below hb2 hlt
  have hB2 : Below w.heap.size w w2 := hb1.trans (hb2.mono hb1.size)
  go_wp2_with fail
  refine (end_any _ _ _ _ _ hR2).mono ?_
  rintro e w7 ⟨rfl, n, rfl⟩
  rw [show endE ⟨#[5]⟩ 0 0 = 24 from rfl, show endP ⟨#[5]⟩ 0 0 = 0 from rfl]
  go_wp2_with fail
  refine (rNum w.heap.size ⟨#[5]⟩ 0 0 4 _ (hR2.drewN n) (by decide) (by decide) (by decide)).mono ?_
  rw [f_wide]
  rintro e w5 ⟨rfl, hR5, hg5⟩
  go_wp2_with fail
  refine (fault_any _ _ _ _ _ hR5).mono ?_
  rw [if_neg (by decide)]
  rintro e w6 ⟨rfl, m, rfl⟩
  go_wp2
  go_ret
  exact ⟨rfl, below_drewN ((below_drewN hB2 n).trans (below_of_only hg5 (Nat.le_refl _) hB2.size)) _⟩

set_option maxHeartbeats 400000 in
theorem awake_any (w : World) : Calls Try.prog 9 #[] w fun e w' => e = .returned (.bool true) ∧ Below w.heap.size w w' := by
  go_enter Try.func9, Try.ntmps9
  go_wp2_with fail
  refine (known_any _).mono ?_
  rintro e w1 ⟨rfl, hb1⟩
  go_wp2_with fail
  refine (names_any _).mono ?_
  rintro e w2 ⟨rfl, hb2⟩
  go_wp2
  go_ret
  exact ⟨rfl, hb1.trans (hb2.mono hb1.size)⟩
end Go.Proofs.Ytefablceddbolaa
