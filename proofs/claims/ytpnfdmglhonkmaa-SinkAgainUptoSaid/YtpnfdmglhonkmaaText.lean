/- The literal of Text: strings.Clone, and a text of so many bytes. -/
import Derived.Test.YtpnfdmglhonkmaaReads
import Derived.Lib.Strings
import Derived.Lib.BufferWrite
import Derived.Lib.UnsafeStr
import Derived.Laws.MakeOwn
set_option maxRecDepth 100000
namespace Go.Proofs.Ytpnfdmglhonkmaa
open Go.RowKit

set_option maxHeartbeats 1000000 in
set_option maxRecDepth 100000 in
theorem clone_any (s : ByteArray) (w : World) (hlim : s.size ≤ 281474976710656) :
    Calls Try.prog 96 #[.string s] w fun e w' => e = .returned (.string s) ∧ Below w.heap.size w w' := by
  by_cases h0 : s.size = 0
  · have hs : s = ⟨#[]⟩ := by
      apply ByteArray.ext
      exact Array.eq_empty_of_size_eq_zero h0
    subst hs
    go_enter Try.func96, Try.ntmps96
    go_wp2
    go_ret
    exact ⟨rfl, Below.refl _ _⟩
  · obtain ⟨i0, hi, hz0, hz1, hz2⟩ := info_parts Try.info5
    have hinfo : (Try.prog.info? 5).map (·.size) = some 1 := by rw [hi]; simp [hz1]
    have hco : Try.prog.cellsOf 5 = 1 := by simp [Program.cellsOf, hi, hz1]
    obtain ⟨M, hM⟩ : ∃ M, M = madeCells (Value.int .u8 0).cells (((s.size : Nat) : Int).toNat * i0.size) := ⟨_, rfl⟩
    have hMs : M.size = s.size := by rw [hM, size_madeCells, hz1]; simp
    have hmk : ∀ W : World, (Instr.makeSlice 103 (.int .i64 (s.size : Int)) (.int .i64 (s.size : Int))).run Try.prog W = .ok (.slice (some ⟨W.heap.size, 0, none⟩) s.size s.size) (W.alloc (.cells M 5)) := fun W => by
      have h := run_make (P := Try.prog) W 103 5 i0 (.int .u8 0) Try.underlying103 hi hz0 .i64 .i64 (s.size : Int) (s.size : Int) (by omega) (by omega) (by rw [hz2]; omega) (by omega)
      rw [← hM] at h
      simpa using h
    clear hM
    have hcp := Lib.run_copy_row_string (P := Try.prog) (w.alloc (.cells M 5)) 103 9 3 5 w.heap.size 0 s.size s.size s M 5 Try.underlying103 hinfo (heap_alloc_new w _) (Nat.le_refl _) (by omega)
    obtain ⟨Y, hY⟩ : ∃ Y, Y = (M.toList.take 0 ++ Lib.byteCells s.data.toList ++ M.toList.drop (0 + s.size)).toArray := ⟨_, rfl⟩
    rw [← hY] at hcp
    have hYl : Y.toList = Lib.byteCells s.data.toList := by
      rw [hY, List.toList_toArray, List.take_zero, List.nil_append, List.drop_of_length_le (by rw [Array.length_toList]; omega), List.append_nil]
    have hYs : Y.size = s.size := by rw [← Array.length_toList, hYl, Lib.byteCells_length, ← Lib.size_eq]
    have hgY : ((w.alloc (.cells M 5)).setRow w.heap.size Y).heap[w.heap.size]? = some (.cells Y 5 (0, 0)) := setRow_heap _ _ M _ 5 (0, 0) (heap_alloc_new w _)
    have hne : s.data.toList ≠ [] := fun e => h0 (by rw [Lib.size_eq, e]; rfl)
    have hUS := Lib.run_unsafeString_row (P := Try.prog) ((w.alloc (.cells M 5)).setRow w.heap.size Y) 139 3 9 5 Try.underlying139 hco w.heap.size Y.size (by unfold World.shape?; rw [hgY]) s.data.toList hne (by rw [← Lib.size_eq]; omega) (by rw [← Lib.size_eq]; omega)
      (fun j x hx => Lib.cells_of_row hgY Y.size j _ (by rw [List.take_of_length_le (by rw [Array.length_toList]; exact Nat.le_refl _), hYl]; simp [Lib.byteCells, hx]))
    rw [← Lib.size_eq] at hUS
    clear hY
    go_enter Try.func96, Try.ntmps96
    go_wp2
    go_ret
    have hb1 : Below w.heap.size w (w.alloc (.cells M 5)) := (Below.refl _ w).alloc (Nat.le_refl _) _
    have hb2 : Below w.heap.size (w.alloc (.cells M 5)) ((w.alloc (.cells M 5)).setRow w.heap.size Y) := ⟨rfl, rfl, rfl, by simp, fun k hk => setRow_other _ _ _ _ (by omega)⟩
    exact ⟨rfl, Lib.below_freeze (hb1.trans hb2) (p := ⟨w.heap.size, 0, none⟩) (Nat.le_refl _) _⟩

set_option maxHeartbeats 400000 in
theorem sclone_any (s : ByteArray) (w : World) (hlim : s.size ≤ 281474976710656) :
    Calls Try.prog 89 #[.string s] w fun e w' => e = .returned (.string s) ∧ Below w.heap.size w w' := by
  go_enter Try.func89, Try.ntmps89
  go_wp2_with fail
  refine (clone_any s _ hlim).mono ?_
  rintro e w1 ⟨rfl, hb⟩
  go_wp2
  go_ret
  exact ⟨rfl, hb⟩

/-- a text: how long it is, and its bytes -/
def textR (l : List UInt8) (most : Nat) : Except Int (ByteArray × Nat) :=
  match numR l most 23 with
  | .error c => .error c
  | .ok (n, k) => if n + k ≤ l.length then .ok (str ((l.drop k).take n), k + n) else .error 20

theorem extract_str (b : ByteArray) (p k n : Nat) : b.extract (p + k) (p + k + n) = str (((b.data.toList.drop p).drop k).take n) := by
  apply ByteArray.ext
  apply Array.toList_inj.1
  rw [ByteArray.data_extract, Array.toList_extract, List.extract_eq_take_drop]
  have e : p + k + n - (p + k) = n := by omega
  rw [e, ← List.drop_drop]
  simp [str]

set_option maxHeartbeats 1000000 in
theorem text_lit (rb mb g : Nat) (b : ByteArray) (p : Nat) (most : Int) (w : World) (hB : w.heap[rb]? = some (.cells #[.pointer (some ⟨g, 0, none⟩)] 70 (0, 0))) (hM : w.heap[mb]? = some (.cells #[.int .i64 most] 3 (0, 0)))
    (hR : Rdr w g b p 0) (hp : p ≤ b.size) (hb : b.size < 4294967296) (hm : most ≤ 9223372036854775807) :
    Calls Try.prog 88 #[.pointer (some ⟨rb, 0, none⟩), .pointer (some ⟨mb, 0, none⟩)] w (ReadPost Value.string g b p (textR (b.data.toList.drop p) most.toNat) w) := by
  have h1 := cell_of_one hB
  have h2 := cell_of_one hM
  have l1 := lt_of_block hB
  have l2 := lt_of_block hM
  go_enter Try.func88, Try.ntmps88
  have hl := fun (wx : World) (hx : Rdr wx g b p 0) => list_any g b p most wx hx hp hb hm
  have HL := Lib.hid hl
  have HB := Lib.hid hB
  have HM := Lib.hid hM
  obtain ⟨R, hRd⟩ : ∃ R, R = textR (b.data.toList.drop p) most.toNat := ⟨_, rfl⟩
  have HR := Lib.hid hRd
  rw [← hRd]
  clear hl hB hM hRd
  go_wp2_with fail
  refine wp_region_held_drew (S := fun w' => w'.cell? ⟨rb, 0, none⟩ = some (.pointer (some ⟨g, 0, none⟩)) ∧ w'.cell? ⟨mb, 0, none⟩ = some (.int .i64 most)) (by kernel_rfl) ⟨h1, h2⟩ (fun hS => ?_)
  refine wpAnyH_take (i := 0) (v := .pointer (some ⟨g, 0, none⟩)) rfl (by kernel_rfl) (by kernel_rfl) (by kernel_rfl) (fun _ _ _ h => h) (Or.inl ⟨by rfl, ?_⟩) hS ?_
  · rintro wx ⟨q1, q2⟩; go_simp
  refine wpAnyH_take (i := 1) (v := .pointer (some ⟨g, 0, none⟩)) rfl (by kernel_rfl) (by kernel_rfl) (by kernel_rfl) (fun _ _ _ h => h) (Or.inl ⟨by rfl, ?_⟩) hS ?_
  · rintro wx ⟨q1, q2⟩; go_simp
  refine wpAnyH_take (i := 2) (v := .int .i64 most) rfl (by kernel_rfl) (by kernel_rfl) (by kernel_rfl) (fun _ _ _ h => h) (Or.inl ⟨by rfl, ?_⟩) hS ?_
  · rintro wx ⟨q1, q2⟩; go_simp
  simp only [Act.put, List.setIfInBounds_toArray]
  refine wpAnyH_ready (rs := [3]) (by kernel_rfl) (by simp) ?_
  refine AllReadyH.cons rfl (fun K hK => ?_) AllReadyH.nil
  go_simp
  refine (HL.out w.drew hR.drew).mono ?_
  cases hr : numR (b.data.toList.drop p) most.toNat 23 with
  | error c =>
    have hRe : R = .error c := by rw [HR.out]; simp [textR, hr]
    subst hRe
    rintro x w1 ⟨rfl, hq, hg1⟩
    exact ⟨rfl, rfl, hq, only_trans (only_drew (only_refl w _)) hg1⟩
  | ok nk =>
    obtain ⟨n, k⟩ := nk
    have HN := Lib.hid hr
    have hnm := Lib.hid (numR_le hr)
    rintro x w1 ⟨rfl, hR1, hg1⟩
    have hgw : w.grownBy w1 (some g) := only_trans (only_drew (only_refl w _)) hg1
    have n1 : rb ∉ [g] := by
      simp only [List.mem_singleton]
      rintro rfl
      have h := HB.out
      unfold Rdr at hR
      rw [h] at hR
      cases hR
    have n2 : mb ∉ [g] := by
      simp only [List.mem_singleton]
      rintro rfl
      have h := HM.out
      unfold Rdr at hR
      rw [h] at hR
      cases hR
    have q1 := cell_of_one ((Turns.of_only hgw).keep HB.out n1)
    have q2 := cell_of_one ((Turns.of_only hgw).keep HM.out n2)
    clear hr
    simp only []
    refine hK.out _ _ ⟨q1, q2⟩ (fun _ => ?_)
    clear hK K
    refine wpAnyH_ready (rs := [4]) (by kernel_rfl) (by simp) ?_
    refine AllReadyH.cons rfl (fun K hK => ?_) AllReadyH.nil
    go_simp
    have hkl := numR_len HN.out
    have hLs : (b.data.toList.drop p).length = b.size - p := by rw [List.length_drop]; rfl
    have hn63 : n < 9223372036854775808 := by have := hnm.out; omega
    by_cases hfit : n + k ≤ (b.data.toList.drop p).length
    · have hRe : R = .ok (str (((b.data.toList.drop p).drop k).take n), k + n) := by rw [HR.out]; simp only [textR, HN.out, if_pos hfit]
      have hx : b.extract (p + k) (p + k + n) = str (((b.data.toList.drop p).drop k).take n) := extract_str b p k n
      generalize str (((b.data.toList.drop p).drop k).take n) = T at hRe hx
      have hTs : T.size ≤ 281474976710656 := by rw [← hx, ByteArray.size_extract]; omega
      have HX := Lib.hid hx
      have HT := Lib.hid hTs
      have HRe := Lib.hid hRe
      clear hRe hx hTs
      refine (take_ok g b (p + k) n 0 w1 hR1 (by omega) hb).mono ?_
      rintro x w2 ⟨rfl, hR2, hg2⟩
      have hgw2 : w.grownBy w2 (some g) := only_trans hgw hg2
      have q3 := cell_of_one ((Turns.of_only hgw2).keep HB.out n1)
      have q4 := cell_of_one ((Turns.of_only hgw2).keep HM.out n2)
      rw [HX.out]
      simp only []
      refine hK.out _ _ ⟨q3, q4⟩ (fun _ => ?_)
      clear hK K
      refine wpAnyH_ready (rs := [5]) (by kernel_rfl) (by simp) ?_
      refine AllReadyH.cons rfl (fun K hK => ?_) AllReadyH.nil
      go_simp
      refine (sclone_any T w2 HT.out).mono ?_
      rintro x w3 ⟨rfl, hb3⟩
      have hgw3 : w.grownBy w3 (some g) := only_trans hgw2 (only_of_below hb3 _)
      have q5 := cell_of_one ((Turns.of_only hgw3).keep HB.out n1)
      have q6 := cell_of_one ((Turns.of_only hgw3).keep HM.out n2)
      simp only []
      refine hK.out _ _ ⟨q5, q6⟩ (fun _ => ?_)
      clear hK K
      refine wpAnyH_ready (rs := [6]) (by kernel_rfl) (by simp) ?_
      refine AllReadyH.cons rfl (fun K hK => ?_) AllReadyH.nil
      go_simp
      refine hK.out _ _ ⟨q5, q6⟩ (fun _ => ?_)
      clear hK K
      refine wpAnyH_done (by kernel_rfl) ?_ _
      go_wp2
      go_ret
      have hR3 : Rdr w3 g b (p + (k + n)) 0 := by rw [← Nat.add_assoc]; exact hR2.below hb3 hR2.lt
      rw [HRe.out]
      exact ⟨rfl, hR3, hgw3⟩
    · have hRe : R = .error 20 := by rw [HR.out]; simp only [textR, HN.out, if_neg hfit]
      have HRe := Lib.hid hRe
      clear hRe
      refine (take_short g b (p + k) n 0 w1 hR1 (by omega) (by omega) hb hn63).mono ?_
      rintro x w2 ⟨rfl, hR2, hg2⟩
      refine ⟨rfl, ?_⟩
      rw [HRe.out]
      exact ⟨rfl, ⟨_, hR2⟩, only_trans hgw hg2⟩
end Go.Proofs.Ytpnfdmglhonkmaa
