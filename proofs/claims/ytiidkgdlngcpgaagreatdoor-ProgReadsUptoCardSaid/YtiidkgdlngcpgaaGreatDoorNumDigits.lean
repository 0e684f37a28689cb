/- num.digits: is a text a whole number's digits, without noughts ahead? -/
import Derived.Test.YtiidkgdlngcpgaaGreatDoorNb
import Derived.Laws.RangeAny
import Derived.Lib.OthersKept
import Derived.Deep.LoopGhost
import Derived.BigQuiet
import Derived.Deep.QuietTactic
set_option maxRecDepth 100000
namespace Go.Proofs.YtiidkgdlngcpgaaGreatDoor
open Go.RowKit Go.WideShapes

def isDig (c : UInt8) : Bool := decide (48 ≤ c.toNat) && decide (c.toNat ≤ 57)
def digitsB (s : ByteArray) : Bool := s.data.toList.all isDig && (decide (s = ⟨#[48]⟩) || (decide (s.size ≠ 0) && decide ((s.data.toList.getD 0 0).toNat ≠ 48)))

theorem all_upto {s : ByteArray} {pos : Nat} (h : s.size ≤ pos) (ha : (s.data.toList.take pos).all isDig = true) : s.data.toList.all isDig = true := by
  rw [List.take_of_length_le (by rw [Array.length_toList]; exact h)] at ha
  exact ha
theorem not_all {s : ByteArray} {pos : Nat} (h : pos < s.size) (hd : isDig (s[pos]'h) = false) : digitsB s = false := by
  unfold digitsB
  have h1 : s.data.toList.all isDig = false := by
    rw [List.all_eq_false]
    refine ⟨s[pos]'h, ?_, by rw [hd]; decide⟩
    exact Array.mem_toList_iff.2 (Array.getElem_mem _)
  rw [h1, Bool.false_and]
theorem all_more {s : ByteArray} {pos : Nat} (h : pos < s.size) (ha : (s.data.toList.take pos).all isDig = true) (hd : isDig (s[pos]'h) = true) : (s.data.toList.take (pos + 1)).all isDig = true := by
  have hl : pos < s.data.toList.length := by rw [Array.length_toList]; exact h
  rw [List.take_succ_eq_append_getElem hl, List.all_append, ha, Bool.true_and]
  simp only [List.all_cons, List.all_nil, Bool.and_true]
  exact hd
theorem iterPos_of {w : World} {k : Nat} {s : ByteArray} {p : Nat} (h : w.heap[k]? = some (.stringIter s p)) : w.iterPos k = p := by simp [World.iterPos, h]

set_option maxRecDepth 100000 in
set_option maxHeartbeats 2000000 in
theorem digits_any (s : ByteArray) (hsz : s.size < 1073741824) (w : World) : Calls Tryz.prog 111 #[.string s] w fun e w' => e = .returned (.bool (digitsB s)) ∧ Below w.heap.size w w' := by
  go_enter Tryz.func111, Tryz.ntmps111
  go_wp2
  go_loopw [] (fun wr => ∃ (pos : Nat), wr.heap[w.heap.size]? = some (.stringIter s pos) ∧ Below w.heap.size w wr ∧ Hid ((s.data.toList.take pos).all isDig = true)) (fun wr => s.size - wr.iterPos w.heap.size)
  case atStart => exact ⟨0, World.iter_heap w s 0, (Below.refl _ _).alloc (Nat.le_refl _) _, rfl⟩
  case round =>
    obtain ⟨pos, hit, hbw, HA⟩ := hrel
    have hpos0 := iterPos_of hit
    by_cases hp : pos < s.size
    · have hnx : ∀ ty, (Instr.next (.pointer (some ⟨w.heap.size, 0, none⟩)) true ty).run Tryz.prog wr = _ := fun ty => Lib.run_next_any_at wr w.heap.size s pos ty hit hp
      have hit2 := Lib.iterAt_heap wr w.heap.size s pos (pos + (Utf8.decode s pos).2) hit
      have hbw2 := Lib.below_iterAt hbw (k := w.heap.size) (Nat.le_refl _) s (pos + (Utf8.decode s pos).2)
      by_cases hd : isDig (s[pos]'hp) = true
      · have hd2 := hd
        unfold isDig at hd2
        rw [Bool.and_eq_true] at hd2
        have d1 := of_decide_eq_true hd2.1
        have d2 := of_decide_eq_true hd2.2
        rw [decode_ascii s pos hp (by omega)] at hnx hit2 hbw2
        simp only at hnx hit2 hbw2
        obtain ⟨W1, hW1⟩ : ∃ W1, W1 = wr.iterAt w.heap.size s (pos + 1) := ⟨_, rfl⟩
        rw [← hW1] at hnx hit2 hbw2
        have c1 : ¬ (((s[pos]'hp).toNat : Nat) : Int) < 48 := by omega
        have c2 : ¬ (57 : Int) < (((s[pos]'hp).toNat : Nat) : Int) := by omega
        have hA2 := Lib.hid (all_more hp HA.out hd)
        clear hW1 hit hbw hd hd2 d1 d2 HA
        obtain ⟨x, hx⟩ : ∃ x : Int, x = (((s[pos]'hp).toNat : Nat) : Int) := ⟨_, rfl⟩
        rw [← hx] at hnx c1 c2
        clear hx
        go_wp2
        go_roundw
        case rel => exact ⟨pos + 1, hit2, hbw2, hA2⟩
        case measure => rw [iterPos_of hit2, hpos0]; omega
      · rw [Bool.not_eq_true] at hd
        have HN := Lib.hid (not_all hp hd)
        have hc : ((Utf8.decode s pos).1 : Int) < 48 ∨ (¬ ((Utf8.decode s pos).1 : Int) < 48 ∧ (57 : Int) < ((Utf8.decode s pos).1 : Int)) := by
          by_cases ha : (s[pos]'hp).toNat < 128
          · rw [decode_ascii s pos hp ha]
            simp only
            unfold isDig at hd
            simp only [Bool.and_eq_false_iff, decide_eq_false_iff_not] at hd
            omega
          · have := (decode_high s pos hp (by omega)).1
            omega
        obtain ⟨W1, hW1⟩ : ∃ W1, W1 = wr.iterAt w.heap.size s (pos + (Utf8.decode s pos).2) := ⟨_, rfl⟩
        rw [← hW1] at hnx hit2 hbw2
        obtain ⟨x, hx⟩ : ∃ x : Int, x = ((Utf8.decode s pos).1 : Int) := ⟨_, rfl⟩
        rw [← hx] at hnx hc
        clear hx hW1 hit hbw hd HA
        rcases hc with c1 | ⟨c1, c2⟩
        · go_wp2
          go_ret
          exact ⟨by rw [HN.out]; rfl, hbw2⟩
        · go_wp2
          go_ret
          exact ⟨by rw [HN.out]; rfl, hbw2⟩
    · have hnx : ∀ ty, (Instr.next (.pointer (some ⟨w.heap.size, 0, none⟩)) true ty).run Tryz.prog wr = .ok (.tuple #[.bool false]) wr := fun ty => by
        simp [Instr.next, getObj, Sem.run, hit, hp]
      have hall := all_upto (by omega) HA.out
      have hB : digitsB s = (decide (s = ⟨#[48]⟩) || (decide (s.size ≠ 0) && decide ((s.data.toList.getD 0 0).toNat ≠ 48))) := by
        unfold digitsB
        rw [hall, Bool.true_and]
      have hsz0 : s.data.toList.length = s.size := Array.length_toList
      by_cases e1 : s.toList = [48]
      · have HB : Hid (digitsB s = true) := by
          have : s = ⟨#[48]⟩ := bytes_inj (by rw [← ByteArray.toList_eq, e1])
          rw [hB, decide_eq_true this, Bool.true_or]
          exact rfl
        clear hB hall HA hsz0
        go_wp2
        go_ret
        exact ⟨by rw [HB.out]; rfl, hbw⟩
      · have e1' : ¬ s = ⟨#[48]⟩ := fun e => e1 (by rw [e, ByteArray.toList_eq])
        rw [decide_eq_false e1', Bool.false_or] at hB
        by_cases e2 : s.toList = []
        · have h0 : s.size = 0 := by
            rw [← hsz0, ← ByteArray.toList_eq, e2]
            rfl
          have HB : Hid (digitsB s = false) := by
            rw [hB, decide_eq_false (by omega), Bool.false_and]
            exact rfl
          clear hB hall HA hsz0 e1'
          go_wp2
          go_ret
          exact ⟨by rw [HB.out]; rfl, hbw⟩
        · have h0 : 0 < s.size := by
            rw [← hsz0, ← ByteArray.toList_eq]
            exact List.length_pos_iff.2 e2
          have hg : s.data.toList.getD 0 0 = s[0]'h0 := by
            rw [List.getD_eq_getElem?_getD, List.getElem?_eq_getElem (by omega)]
            rfl
          rw [hg, decide_eq_true (show s.size ≠ 0 by omega), Bool.true_and] at hB
          by_cases e4 : (s[0]'h0).toNat = 48
          · have HB : Hid (digitsB s = false) := by
              rw [hB, decide_eq_false (by omega)]
              exact rfl
            clear hB hall HA hsz0 e1' hg
            go_wp2
            go_ret
            exact ⟨by rw [HB.out]; simp [e1, e4], hbw⟩
          · have HB : Hid (digitsB s = true) := by
              rw [hB, decide_eq_true e4]
              exact rfl
            clear hB hall HA hsz0 e1' hg
            go_wp2
            go_ret
            exact ⟨by rw [HB.out]; simp [e1, e2]; omega, hbw⟩
end Go.Proofs.YtiidkgdlngcpgaaGreatDoor
