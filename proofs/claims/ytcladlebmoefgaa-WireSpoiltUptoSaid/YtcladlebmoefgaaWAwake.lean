/- awake: the calls whose answers the document fixes. -/
import Derived.Test.YtcladlebmoefgaaWSame
import Derived.Test.YtcladlebmoefgaaMsgOpen
namespace Go.Proofs.Ytcladlebmoefgaa
open Go.RowKit

def aw1 : Mg := ⟨3, 1, 300, 0, 2, 0, 0, 0, 0, ⟨#[]⟩, ⟨#[]⟩⟩
def aw2 : Mg := ⟨5, 0, 0, 0, 3, 0, 0, 0, 0, ⟨#[49, 112, 48]⟩, ⟨#[]⟩⟩
def aw3 : Mg := ⟨1, 1, 0, 0, 0, 0, 0, 0, 0, ⟨#[]⟩, ⟨#[]⟩⟩

theorem aw1_check : aw1.check = 0 := by decide
theorem aw2_check : aw2.check = 0 := by decide
theorem aw3_check : aw3.check = 71 := by decide
theorem aw0_check : (Mg.none 0).check = 70 := by decide
theorem aw4_check : (Mg.none 1).check = 0 := by decide
theorem aw1_bytes : str aw1.bytes = ⟨#[3, 1, 172, 2, 2]⟩ := by
  have h300 : vb 300 = [172, 2] := by rw [vb_ge (by decide), vb_lt (by decide)]; rfl
  have h : aw1.bytes = vb 3 ++ ((vb 1) ++ ((vb 300) ++ ((vb 2) ++ []))) := rfl
  rw [h, h300, vb_lt (by decide), vb_lt (by decide), vb_lt (by decide)]
  rfl
theorem aw2_bytes : str aw2.bytes = ⟨#[5, 3, 0, 3, 49, 112, 48]⟩ := by
  have h : aw2.bytes = vb 5 ++ ((vb 3) ++ ((vb 0) ++ ((vb 3 ++ [49, 112, 48]) ++ []))) := rfl
  rw [h, vb_lt (by decide), vb_lt (by decide), vb_lt (by decide)]
  rfl
theorem aw_fit1 : aw1.Fit := by constructor <;> decide
theorem aw_fit2 : aw2.Fit := by constructor <;> decide
theorem aw_fit3 : aw3.Fit := by constructor <;> decide
theorem aw_fit0 : (Mg.none 0).Fit := none_fit (by decide)
theorem aw_fit4 : (Mg.none 1).Fit := none_fit (by decide)
theorem aw2_decode : decode ⟨#[5, 3, 0, 3, 49, 112, 48]⟩ = (aw2, 0) := by
  rw [← aw2_bytes]
  exact decode_bytes aw_fit2 aw2_check
theorem aw_none : decode ⟨#[]⟩ = (Mg.none 0, 72) := by decide

set_option maxHeartbeats 4000000 in
set_option maxRecDepth 100000 in
theorem awake_any (w : World) : Calls Try.prog 10 #[] w fun e w' => e = .returned (.bool true) ∧ Below w.heap.size w w' := by
  have h1 := fun wx => Encode_any aw1 wx aw_fit1
  rw [aw1_check, aw1_bytes] at h1
  have h2 := fun wx => Decode_any ⟨#[5, 3, 0, 3, 49, 112, 48]⟩ wx (by decide)
  rw [aw2_decode] at h2
  have h3 := fun wx => Decode_any ⟨#[]⟩ wx (by decide)
  rw [aw_none] at h3
  have h4 := fun wx => Check_any (Mg.none 0) wx aw_fit0
  rw [aw0_check] at h4
  have h5 := fun wx => Check_any aw3 wx aw_fit3
  rw [aw3_check] at h5
  have h6 := fun wx => Check_any (Mg.none 1) wx aw_fit4
  rw [aw4_check] at h6
  have H1 := Lib.hid h1
  have H2 := Lib.hid h2
  have H3 := Lib.hid h3
  have H4 := Lib.hid h4
  have H5 := Lib.hid h5
  have H6 := Lib.hid h6
  clear h1 h2 h3 h4 h5 h6
  go_enter Try.func10, Try.ntmps10
  go_wp2_with fail
  refine (H1.out _).mono ?_
  rintro x w1 ⟨rfl, hb1⟩
  go_wp2_with fail
  refine (H2.out _).mono ?_
  rintro x w2 ⟨rfl, hb2⟩
  have HB2 := Lib.hid (hb1.trans (hb2.mono hb1.size))
  clear hb1 hb2
  go_wp2_with fail
  generalize hW : World.alloc w2 _ = W
  have hm : Ms W w2.heap.size aw2 := by rw [← hW]; exact Cells.newAt _ _ _ _ rfl
  have hbW : Below w.heap.size w W := by rw [← hW]; exact HB2.out.alloc HB2.out.size _
  have HM := Lib.hid hm
  have HBW := Lib.hid hbW
  clear hW hm hbW
  refine (H3.out _).mono ?_
  rintro x w3 ⟨rfl, hb3⟩
  have HB3 := Lib.hid (HBW.out.trans (hb3.mono HBW.out.size))
  have HM3 := Lib.hid (Cells.keep HM.out hb3)
  clear hb3
  go_upto_region 4 with (fail)
  generalize hW2 : World.alloc w3 _ = W2
  have hm2 : Cells W2 w2.heap.size 26 aw2.cells := by rw [← hW2]; exact HM3.out.alloc _
  have hbW2 : Below w.heap.size w W2 := by rw [← hW2]; exact HB3.out.alloc HB3.out.size _
  have q0 : W2.cell? ⟨w2.heap.size, 0, none⟩ = some (.int .i64 5) := hm2.cell rfl
  have q4 : W2.cell? ⟨w2.heap.size, 4, none⟩ = some (.int .i64 3) := hm2.cell rfl
  have q8 : W2.cell? ⟨w2.heap.size, 9, none⟩ = some (.string ⟨#[49, 112, 48]⟩) := hm2.cell rfl
  have HBW2 := Lib.hid hbW2
  clear hW2 hm2 hbW2
  go_wp2_with fail
  refine (H4.out _).mono ?_
  rintro x w4 ⟨rfl, hb4⟩
  have HB4 := Lib.hid (HBW2.out.trans (hb4.mono HBW2.out.size))
  clear hb4 q0 q4 q8
  go_wp2_with fail
  refine (H5.out _).mono ?_
  rintro x w5 ⟨rfl, hb5⟩
  have HB5 := Lib.hid (HB4.out.trans (hb5.mono HB4.out.size))
  clear hb5
  go_wp2_with fail
  refine (H6.out _).mono ?_
  rintro x w6 ⟨rfl, hb6⟩
  have HB6 := Lib.hid (HB5.out.trans (hb6.mono HB5.out.size))
  clear hb6
  go_wp2
  go_ret
  exact ⟨rfl, HB6.out⟩
end Go.Proofs.Ytcladlebmoefgaa
