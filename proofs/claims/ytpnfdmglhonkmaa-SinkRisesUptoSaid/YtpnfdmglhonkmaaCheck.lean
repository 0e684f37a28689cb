/- wire.Check. -/
import Derived.Test.YtpnfdmglhonkmaaFieldsAll
import Derived.Test.YtpnfdmglhonkmaaNamedAll
import Derived.Test.YtpnfdmglhonkmaaMb
import Derived.Deep.DeepCutAuto
import Derived.Deep.RegionWith
set_option maxRecDepth 100000
namespace Go.Proofs.Ytpnfdmglhonkmaa
open Go.RowKit

def Fd.ok : Fd → Bool
  | .whole k _ _ => decide (1 ≤ k) && decide (k ≤ 6)
  | .text k _ h => (decide (k = 9) || decide (k = 10)) && decide (h ≤ 1024)
  | .result => true

theorem fieldsOf_ok (k : Nat) : ∀ f ∈ fieldsOf k, f.ok = true := by
  unfold fieldsOf
  split <;> decide
theorem fieldsOf_len (k : Nat) : (fieldsOf k).length ≤ 5 := by
  unfold fieldsOf
  split <;> simp

theorem rel_end {w wr w2 : World} {lo hi g : Nat} {A : Option Addr} {L : List Fd} {m : Mg} (hF : FieldsAt wr lo hi A L) (hm : Ms wr g m) (hb : Below w.heap.size w wr) (hs : hi ≤ wr.heap.size) (h2 : Below wr.heap.size wr w2) :
    FieldsAt w2 lo hi A L ∧ Ms w2 g m ∧ Below w.heap.size w w2 ∧ hi ≤ w2.heap.size :=
  ⟨hF.kept (Kept.of_below (h2.mono hs)), Cells.keep hm h2, hb.trans (h2.mono hb.size), Nat.le_trans hs h2.size⟩

theorem fields_int (x : Int) (w : World) (h0 : 0 ≤ x) (h16 : x ≤ 16) : Calls Try.prog 23 #[.int .i64 x] w (MadeFields (fieldsOf x.toNat) w) := by
  obtain ⟨k, rfl⟩ := Int.eq_ofNat_of_zero_le h0
  exact fields_any k w (by omega)

set_option maxHeartbeats 8000000 in
set_option maxRecDepth 100000 in
theorem Check_any (m : Mg) (w : World) (hfit : m.Fit) :
    Calls Try.prog 25 #[m.val] w fun e w' => e = .returned (.int .i64 m.check) ∧ Below w.heap.size w w' := by
  obtain ⟨W, hW⟩ : ∃ W, W = w.alloc (.cells m.cells 61) := ⟨_, rfl⟩
  have hm : Ms W w.heap.size m := by rw [hW]; exact Cells.newAt _ _ _ _ rfl
  have hBW : Below w.heap.size w W := by rw [hW]; exact below_new0 _ _
  have hs : W.heap.size = w.heap.size + 1 := by rw [hW]; simp
  have HW := Lib.hid hW
  have HS := Lib.hid hs
  clear hW hs
  obtain ⟨k0, k1, k2, k3, k4, k5, k6, k7, k8, k9, k10⟩ := hm.all
  by_cases h1 : m.kind < 1
  · have hchk : m.check = 70 := by unfold Mg.check; rw [if_pos (.inl h1)]
    have HC := Lib.hid hchk
    clear hchk
    have t1 : decide (m.kind < 1) = true := decide_eq_true h1
    go_enter Try.func25, Try.ntmps25
    go_wp2
    go_ret
    exact ⟨by rw [HC.out]; rfl, below_new0 _ _⟩
  · have t1 : decide (m.kind < 1) = false := decide_eq_false h1
    by_cases h2 : 16 < m.kind
    · have hchk : m.check = 70 := by unfold Mg.check; rw [if_pos (.inr h2)]
      have HC := Lib.hid hchk
      clear hchk
      have t2 : decide (16 < m.kind) = true := decide_eq_true h2
      go_enter Try.func25, Try.ntmps25
      go_wp2
      go_ret
      exact ⟨by rw [HC.out]; rfl, below_new0 _ _⟩
    · have t2 : decide (16 < m.kind) = false := decide_eq_false h2
      obtain ⟨Bq, hBq⟩ : ∃ Bq : Bool, Bq = (decide (m.named = m) && !(decide (m.kind = 6) && decide (m.idx = 0) && decide (m.text ≠ ⟨#[]⟩))) := ⟨_, rfl⟩
      have hchk : m.check = if (Bq && (fieldsOf m.kind.toNat).all fun f => f.may m) = true then 0 else 71 := by
        unfold Mg.check
        rw [if_neg (by omega), hBq]
        by_cases a1 : m.named = m <;> by_cases a2 : m.kind = 6 <;> by_cases a3 : m.idx = 0 <;> by_cases a4 : m.text = ⟨#[]⟩ <;> simp [a1, a2, a3, a4]
      have HQ := Lib.hid hBq
      have HC := Lib.hid hchk
      clear hchk hBq
      have hnm := fun wx => named_any m wx (by omega) (by omega)
      have hq : ∀ wx, (binOp .eql 61 m.named.val m.val).run Try.prog wx = .ok (.bool (decide (m.named = m))) wx := fun wx => msg_eql _ _ _
      generalize m.named = M at hnm hq HQ
      have HN := Lib.hid hnm
      clear hnm
      have HMW := Lib.hid hm
      have HK := Lib.hid fun (wx wy : World) (hw : Below wx.heap.size wx wy) (h : wx.cell? ⟨w.heap.size, 0, none⟩ = some (.int .i64 m.kind) ∧ wx.cell? ⟨w.heap.size, 1, none⟩ = some (.int .i64 m.sess) ∧ wx.cell? ⟨w.heap.size, 2, none⟩ = some (.int .i64 m.num) ∧ wx.cell? ⟨w.heap.size, 3, none⟩ = some (.int .i64 m.job) ∧ wx.cell? ⟨w.heap.size, 4, none⟩ = some (.int .i64 m.badge) ∧ wx.cell? ⟨w.heap.size, 5, none⟩ = some (.int .i64 m.idx) ∧ wx.cell? ⟨w.heap.size, 6, none⟩ = some (.int .i64 m.cnt) ∧ wx.cell? ⟨w.heap.size, 7, none⟩ = some (.int .i64 m.code) ∧ wx.cell? ⟨w.heap.size, 8, none⟩ = some (.int .u64 m.bits) ∧ wx.cell? ⟨w.heap.size, 9, none⟩ = some (.string m.text) ∧ wx.cell? ⟨w.heap.size, 10, none⟩ = some (.string m.prog)) => (show wy.cell? ⟨w.heap.size, 0, none⟩ = some (.int .i64 m.kind) ∧ wy.cell? ⟨w.heap.size, 1, none⟩ = some (.int .i64 m.sess) ∧ wy.cell? ⟨w.heap.size, 2, none⟩ = some (.int .i64 m.num) ∧ wy.cell? ⟨w.heap.size, 3, none⟩ = some (.int .i64 m.job) ∧ wy.cell? ⟨w.heap.size, 4, none⟩ = some (.int .i64 m.badge) ∧ wy.cell? ⟨w.heap.size, 5, none⟩ = some (.int .i64 m.idx) ∧ wy.cell? ⟨w.heap.size, 6, none⟩ = some (.int .i64 m.cnt) ∧ wy.cell? ⟨w.heap.size, 7, none⟩ = some (.int .i64 m.code) ∧ wy.cell? ⟨w.heap.size, 8, none⟩ = some (.int .u64 m.bits) ∧ wy.cell? ⟨w.heap.size, 9, none⟩ = some (.string m.text) ∧ wy.cell? ⟨w.heap.size, 10, none⟩ = some (.string m.prog) from by
        obtain ⟨q0, q1, q2, q3, q4, q5, q6, q7, q8, q9, q10⟩ := h
        exact ⟨(hw.cell (World.block_lt_of_cell? _ _ q0)).trans q0, (hw.cell (World.block_lt_of_cell? _ _ q1)).trans q1, (hw.cell (World.block_lt_of_cell? _ _ q2)).trans q2, (hw.cell (World.block_lt_of_cell? _ _ q3)).trans q3, (hw.cell (World.block_lt_of_cell? _ _ q4)).trans q4, (hw.cell (World.block_lt_of_cell? _ _ q5)).trans q5, (hw.cell (World.block_lt_of_cell? _ _ q6)).trans q6, (hw.cell (World.block_lt_of_cell? _ _ q7)).trans q7, (hw.cell (World.block_lt_of_cell? _ _ q8)).trans q8, (hw.cell (World.block_lt_of_cell? _ _ q9)).trans q9, (hw.cell (World.block_lt_of_cell? _ _ q10)).trans q10⟩)
      have HM0 := Lib.hid fun (wy : World) (h : Below W.drew.heap.size W.drew wy) => (show Ms wy w.heap.size m from (HMW.out.drew).keep h)
      have HB0 := Lib.hid fun (wy : World) (h : Below W.drew.heap.size W.drew wy) => (show Below w.heap.size w wy from (hBW.drew).trans (h.mono hBW.size))
      clear hm
      go_enter Try.func25, Try.ntmps25
      go_upto_region 3 with (fail)
      rw [← HW.out]
      go_cut [3] (fun s3 wx => s3 = .bool Bq ∧ Ms wx w.heap.size m ∧ Below w.heap.size w wx)
      case first =>
        by_cases a1 : M = m
        · have t3 : decide (M = m) = true := decide_eq_true a1
          have A1 := Lib.hid a1
          clear a1
          by_cases a2 : m.kind = 6
          · have t4 : (m.kind == 6) = true := by rw [beq_iff_eq]; exact a2
            have u4 : decide (m.kind = 6) = true := decide_eq_true a2
            have A2 := Lib.hid a2
            clear a2
            by_cases a3 : m.idx = 0
            · have t5 : (m.idx == 0) = true := by rw [beq_iff_eq]; exact a3
              have u5 : decide (m.idx = 0) = true := decide_eq_true a3
              have A3 := Lib.hid a3
              clear a3
              by_cases a4 : m.text = ⟨#[]⟩
              · have t6 : m.text.toList = [] := by rw [a4]; exact empty_list
                have t7 : m.text.toList.isEmpty = true := by rw [t6]; rfl
                have u6 : decide (m.text ≠ ⟨#[]⟩) = false := by simp [a4]
                have hB : Bq = true := by rw [HQ.out, t3, u4, u5, u6]; rfl
                have HB := Lib.hid hB
                clear hB a4 u4 u5 u6
                refine wp_region_noPanic ?_
                refine wp_region_held_drew (S := fun w' => w'.cell? ⟨w.heap.size, 0, none⟩ = some (.int .i64 m.kind) ∧ w'.cell? ⟨w.heap.size, 1, none⟩ = some (.int .i64 m.sess) ∧ w'.cell? ⟨w.heap.size, 2, none⟩ = some (.int .i64 m.num) ∧ w'.cell? ⟨w.heap.size, 3, none⟩ = some (.int .i64 m.job) ∧ w'.cell? ⟨w.heap.size, 4, none⟩ = some (.int .i64 m.badge) ∧ w'.cell? ⟨w.heap.size, 5, none⟩ = some (.int .i64 m.idx) ∧ w'.cell? ⟨w.heap.size, 6, none⟩ = some (.int .i64 m.cnt) ∧ w'.cell? ⟨w.heap.size, 7, none⟩ = some (.int .i64 m.code) ∧ w'.cell? ⟨w.heap.size, 8, none⟩ = some (.int .u64 m.bits) ∧ w'.cell? ⟨w.heap.size, 9, none⟩ = some (.string m.text) ∧ w'.cell? ⟨w.heap.size, 10, none⟩ = some (.string m.prog)) (by kernel_rfl) ⟨k0, k1, k2, k3, k4, k5, k6, k7, k8, k9, k10⟩ (fun hS => ?_)
                refine wpAnyH_take (i := 0) (v := ?_) rfl (by kernel_rfl) (by kernel_rfl) (by kernel_rfl) (fun _ _ _ h => h) (Or.inl ⟨by rfl, ?_⟩) hS ?_
                rotate_left
                · (intro wx hSx; (try dsimp only at hSx); go_simp; (try with_reducible rfl))
                simp only [List.getElem_toArray, List.getElem_cons_zero, Act.put, List.setIfInBounds_toArray, List.set_cons_zero, List.set_cons_succ]
                refine wpAnyH_take (i := 2) (v := ?_) rfl (by kernel_rfl) (by kernel_rfl) (by kernel_rfl) (fun _ _ _ h => h) (Or.inl ⟨by rfl, ?_⟩) hS ?_
                rotate_left
                · (intro wx hSx; (try dsimp only at hSx); go_simp; (try with_reducible rfl))
                simp only [List.getElem_toArray, List.getElem_cons_succ, List.getElem_cons_zero, Act.put, List.setIfInBounds_toArray, List.set_cons_zero, List.set_cons_succ]
                refine wpAnyH_ready (rs := [1]) (by kernel_rfl) (by simp) ?_
                refine AllReadyH.cons rfl (fun K hK => ?_) AllReadyH.nil
                go_simp
                go_at_call 46
                refine (HN.out _).mono ?_
                rintro x wn ⟨rfl, hbn⟩
                refine hK.out _ _ (HK.out _ _ hbn hS) (fun hS => ?_)
                clear hK K
                refine wpAnyH_take (i := 3) (v := ?_) rfl (by kernel_rfl) (by kernel_rfl) (by kernel_rfl) (fun _ _ _ h => h) (Or.inl ⟨by rfl, ?_⟩) hS ?_
                rotate_left
                · (intro wx hSx; (try dsimp only at hSx); go_simp; (try with_reducible rfl))
                simp only [List.getElem_toArray, List.getElem_cons_succ, List.getElem_cons_zero, Act.put, List.setIfInBounds_toArray, List.set_cons_zero, List.set_cons_succ]
                refine wpAnyH_take (i := 4) (v := ?_) rfl (by kernel_rfl) (by kernel_rfl) (by kernel_rfl) (fun _ _ _ h => h) (Or.inl ⟨by rfl, ?_⟩) hS ?_
                rotate_left
                · (intro wx hSx; (try dsimp only at hSx); go_simp; (try with_reducible rfl))
                simp only [List.getElem_toArray, List.getElem_cons_succ, List.getElem_cons_zero, Act.put, List.setIfInBounds_toArray, List.set_cons_zero, List.set_cons_succ]
                refine wpAnyH_take (i := 5) (v := ?_) rfl (by kernel_rfl) (by kernel_rfl) (by kernel_rfl) (fun _ _ _ h => h) (Or.inl ⟨by rfl, ?_⟩) hS ?_
                rotate_left
                · (intro wx hSx; (try dsimp only at hSx); go_simp; (try with_reducible rfl))
                simp only [List.getElem_toArray, List.getElem_cons_succ, List.getElem_cons_zero, Act.put, List.setIfInBounds_toArray, List.set_cons_zero, List.set_cons_succ]
                refine wpAnyH_take (i := 6) (v := ?_) rfl (by kernel_rfl) (by kernel_rfl) (by kernel_rfl) (fun _ _ _ h => h) (Or.inl ⟨by rfl, ?_⟩) hS ?_
                rotate_left
                · (intro wx hSx; (try dsimp only at hSx); go_simp; (try with_reducible rfl))
                simp only [List.getElem_toArray, List.getElem_cons_succ, List.getElem_cons_zero, Act.put, List.setIfInBounds_toArray, List.set_cons_zero, List.set_cons_succ]
                refine wpAnyH_take (i := 7) (v := ?_) rfl (by kernel_rfl) (by kernel_rfl) (by kernel_rfl) (fun _ _ _ h => h) (Or.inl ⟨by rfl, ?_⟩) hS ?_
                rotate_left
                · (intro wx hSx; (try dsimp only at hSx); go_simp; (try with_reducible rfl))
                simp only [List.getElem_toArray, List.getElem_cons_succ, List.getElem_cons_zero, Act.put, List.setIfInBounds_toArray, List.set_cons_zero, List.set_cons_succ]
                refine wpAnyH_take (i := 8) (v := ?_) rfl (by kernel_rfl) (by kernel_rfl) (by kernel_rfl) (fun _ _ _ h => h) (Or.inl ⟨by rfl, ?_⟩) hS ?_
                rotate_left
                · (intro wx hSx; (try dsimp only at hSx); go_simp; (try with_reducible rfl))
                simp only [List.getElem_toArray, List.getElem_cons_succ, List.getElem_cons_zero, Act.put, List.setIfInBounds_toArray, List.set_cons_zero, List.set_cons_succ]
                refine wpAnyH_take (i := 9) (v := ?_) rfl (by kernel_rfl) (by kernel_rfl) (by kernel_rfl) (fun _ _ _ h => h) (Or.inl ⟨by rfl, ?_⟩) hS ?_
                rotate_left
                · (intro wx hSx; (try dsimp only at hSx); go_simp; (try with_reducible rfl))
                simp only [List.getElem_toArray, List.getElem_cons_succ, List.getElem_cons_zero, Act.put, List.setIfInBounds_toArray, List.set_cons_zero, List.set_cons_succ]
                refine wpAnyH_take (i := 10) (v := ?_) rfl (by kernel_rfl) (by kernel_rfl) (by kernel_rfl) (fun _ _ _ h => h) (Or.inl ⟨by rfl, ?_⟩) hS ?_
                rotate_left
                · (intro wx hSx; (try dsimp only at hSx); go_simp; (try with_reducible rfl))
                simp only [List.getElem_toArray, List.getElem_cons_succ, List.getElem_cons_zero, Act.put, List.setIfInBounds_toArray, List.set_cons_zero, List.set_cons_succ]
                refine wpAnyH_take (i := 11) (v := ?_) rfl (by kernel_rfl) (by kernel_rfl) (by kernel_rfl) (fun _ _ _ h => h) (Or.inl ⟨by rfl, ?_⟩) hS ?_
                rotate_left
                · (intro wx hSx; (try dsimp only at hSx); go_simp; (try with_reducible rfl))
                simp only [List.getElem_toArray, List.getElem_cons_succ, List.getElem_cons_zero, Act.put, List.setIfInBounds_toArray, List.set_cons_zero, List.set_cons_succ]
                refine wpAnyH_take (i := 12) (v := ?_) rfl (by kernel_rfl) (by kernel_rfl) (by kernel_rfl) (fun _ _ _ h => h) (Or.inl ⟨by rfl, ?_⟩) hS ?_
                rotate_left
                · (intro wx hSx; (try dsimp only at hSx); go_simp; (try with_reducible rfl))
                simp only [List.getElem_toArray, List.getElem_cons_succ, List.getElem_cons_zero, Act.put, List.setIfInBounds_toArray, List.set_cons_zero, List.set_cons_succ]
                refine wpAnyH_take (i := 13) (v := ?_) rfl (by kernel_rfl) (by kernel_rfl) (by kernel_rfl) (fun _ _ _ h => h) (Or.inl ⟨by rfl, ?_⟩) hS ?_
                rotate_left
                · (intro wx hSx; (try dsimp only at hSx); go_simp; (try with_reducible rfl))
                simp only [List.getElem_toArray, List.getElem_cons_succ, List.getElem_cons_zero, Act.put, List.setIfInBounds_toArray, List.set_cons_zero, List.set_cons_succ]
                refine wpAnyH_take (i := 14) (v := ?_) rfl (by kernel_rfl) (by kernel_rfl) (by kernel_rfl) (fun _ _ _ h => h) (Or.inl ⟨by rfl, ?_⟩) hS ?_
                rotate_left
                · (intro wx hSx; (try dsimp only at hSx); go_simp; (try with_reducible rfl))
                simp only [List.getElem_toArray, List.getElem_cons_succ, List.getElem_cons_zero, Act.put, List.setIfInBounds_toArray, List.set_cons_zero, List.set_cons_succ]
                refine wpAnyH_take (i := 15) (v := ?_) rfl (by kernel_rfl) (by kernel_rfl) (by kernel_rfl) (fun _ _ _ h => h) (Or.inl ⟨by rfl, ?_⟩) hS ?_
                rotate_left
                · (intro wx hSx; (try dsimp only at hSx); go_simp; (try with_reducible rfl))
                simp only [List.getElem_toArray, List.getElem_cons_succ, List.getElem_cons_zero, Act.put, List.setIfInBounds_toArray, List.set_cons_zero, List.set_cons_succ]
                refine wpAnyH_take (i := 16) (v := ?_) rfl (by kernel_rfl) (by kernel_rfl) (by kernel_rfl) (fun _ _ _ h => h) (Or.inl ⟨by rfl, ?_⟩) hS ?_
                rotate_left
                · (intro wx hSx; (try dsimp only at hSx); go_simp; (try with_reducible rfl))
                simp only [List.getElem_toArray, List.getElem_cons_succ, List.getElem_cons_zero, Act.put, List.setIfInBounds_toArray, List.set_cons_zero, List.set_cons_succ]
                refine wpAnyH_take (i := 17) (v := ?_) rfl (by kernel_rfl) (by kernel_rfl) (by kernel_rfl) (fun _ _ _ h => h) (Or.inl ⟨by rfl, ?_⟩) hS ?_
                rotate_left
                · (intro wx hSx; (try dsimp only at hSx); go_simp; (try with_reducible rfl))
                simp only [List.getElem_toArray, List.getElem_cons_succ, List.getElem_cons_zero, Act.put, List.setIfInBounds_toArray, List.set_cons_zero, List.set_cons_succ]
                refine wpAnyH_take (i := 18) (v := ?_) rfl (by kernel_rfl) (by kernel_rfl) (by kernel_rfl) (fun _ _ _ h => h) (Or.inl ⟨by rfl, ?_⟩) hS ?_
                rotate_left
                · (intro wx hSx; (try dsimp only at hSx); go_simp; (try with_reducible rfl))
                simp only [List.getElem_toArray, List.getElem_cons_succ, List.getElem_cons_zero, Act.put, List.setIfInBounds_toArray, List.set_cons_zero, List.set_cons_succ]
                refine wpAnyH_take (i := 19) (v := ?_) rfl (by kernel_rfl) (by kernel_rfl) (by kernel_rfl) (fun _ _ _ h => h) (Or.inl ⟨by rfl, ?_⟩) hS ?_
                rotate_left
                · (intro wx hSx; (try dsimp only at hSx); go_simp; (try with_reducible rfl))
                simp only [List.getElem_toArray, List.getElem_cons_succ, List.getElem_cons_zero, Act.put, List.setIfInBounds_toArray, List.set_cons_zero, List.set_cons_succ]
                refine wpAnyH_take (i := 20) (v := ?_) rfl (by kernel_rfl) (by kernel_rfl) (by kernel_rfl) (fun _ _ _ h => h) (Or.inl ⟨by rfl, ?_⟩) hS ?_
                rotate_left
                · (intro wx hSx; (try dsimp only at hSx); go_simp; (try with_reducible rfl))
                simp only [List.getElem_toArray, List.getElem_cons_succ, List.getElem_cons_zero, Act.put, List.setIfInBounds_toArray, List.set_cons_zero, List.set_cons_succ]
                refine wpAnyH_done (by kernel_rfl) ?_ _
                refine NoPanic.normal ?_
                go_wp2_with fail
                go_meet
                exact ⟨congrArg Value.bool HB.out.symm, HM0.out _ hbn, HB0.out _ hbn⟩
              · have t6 : ¬ m.text.toList = [] := fun e => a4 (bytes_inj (e.trans empty_list.symm))
                have t7 : m.text.toList.isEmpty = false := by simpa using t6
                have u6 : decide (m.text ≠ ⟨#[]⟩) = true := by simp [a4]
                have hB : Bq = false := by rw [HQ.out, t3, u4, u5, u6]; rfl
                have HB := Lib.hid hB
                clear hB a4 u4 u5 u6
                refine wp_region_noPanic ?_
                refine wp_region_held_drew (S := fun w' => w'.cell? ⟨w.heap.size, 0, none⟩ = some (.int .i64 m.kind) ∧ w'.cell? ⟨w.heap.size, 1, none⟩ = some (.int .i64 m.sess) ∧ w'.cell? ⟨w.heap.size, 2, none⟩ = some (.int .i64 m.num) ∧ w'.cell? ⟨w.heap.size, 3, none⟩ = some (.int .i64 m.job) ∧ w'.cell? ⟨w.heap.size, 4, none⟩ = some (.int .i64 m.badge) ∧ w'.cell? ⟨w.heap.size, 5, none⟩ = some (.int .i64 m.idx) ∧ w'.cell? ⟨w.heap.size, 6, none⟩ = some (.int .i64 m.cnt) ∧ w'.cell? ⟨w.heap.size, 7, none⟩ = some (.int .i64 m.code) ∧ w'.cell? ⟨w.heap.size, 8, none⟩ = some (.int .u64 m.bits) ∧ w'.cell? ⟨w.heap.size, 9, none⟩ = some (.string m.text) ∧ w'.cell? ⟨w.heap.size, 10, none⟩ = some (.string m.prog)) (by kernel_rfl) ⟨k0, k1, k2, k3, k4, k5, k6, k7, k8, k9, k10⟩ (fun hS => ?_)
                refine wpAnyH_take (i := 0) (v := ?_) rfl (by kernel_rfl) (by kernel_rfl) (by kernel_rfl) (fun _ _ _ h => h) (Or.inl ⟨by rfl, ?_⟩) hS ?_
                rotate_left
                · (intro wx hSx; (try dsimp only at hSx); go_simp; (try with_reducible rfl))
                simp only [List.getElem_toArray, List.getElem_cons_zero, Act.put, List.setIfInBounds_toArray, List.set_cons_zero, List.set_cons_succ]
                refine wpAnyH_take (i := 2) (v := ?_) rfl (by kernel_rfl) (by kernel_rfl) (by kernel_rfl) (fun _ _ _ h => h) (Or.inl ⟨by rfl, ?_⟩) hS ?_
                rotate_left
                · (intro wx hSx; (try dsimp only at hSx); go_simp; (try with_reducible rfl))
                simp only [List.getElem_toArray, List.getElem_cons_succ, List.getElem_cons_zero, Act.put, List.setIfInBounds_toArray, List.set_cons_zero, List.set_cons_succ]
                refine wpAnyH_ready (rs := [1]) (by kernel_rfl) (by simp) ?_
                refine AllReadyH.cons rfl (fun K hK => ?_) AllReadyH.nil
                go_simp
                go_at_call 46
                refine (HN.out _).mono ?_
                rintro x wn ⟨rfl, hbn⟩
                refine hK.out _ _ (HK.out _ _ hbn hS) (fun hS => ?_)
                clear hK K
                refine wpAnyH_take (i := 3) (v := ?_) rfl (by kernel_rfl) (by kernel_rfl) (by kernel_rfl) (fun _ _ _ h => h) (Or.inl ⟨by rfl, ?_⟩) hS ?_
                rotate_left
                · (intro wx hSx; (try dsimp only at hSx); go_simp; (try with_reducible rfl))
                simp only [List.getElem_toArray, List.getElem_cons_succ, List.getElem_cons_zero, Act.put, List.setIfInBounds_toArray, List.set_cons_zero, List.set_cons_succ]
                refine wpAnyH_take (i := 4) (v := ?_) rfl (by kernel_rfl) (by kernel_rfl) (by kernel_rfl) (fun _ _ _ h => h) (Or.inl ⟨by rfl, ?_⟩) hS ?_
                rotate_left
                · (intro wx hSx; (try dsimp only at hSx); go_simp; (try with_reducible rfl))
                simp only [List.getElem_toArray, List.getElem_cons_succ, List.getElem_cons_zero, Act.put, List.setIfInBounds_toArray, List.set_cons_zero, List.set_cons_succ]
                refine wpAnyH_take (i := 5) (v := ?_) rfl (by kernel_rfl) (by kernel_rfl) (by kernel_rfl) (fun _ _ _ h => h) (Or.inl ⟨by rfl, ?_⟩) hS ?_
                rotate_left
                · (intro wx hSx; (try dsimp only at hSx); go_simp; (try with_reducible rfl))
                simp only [List.getElem_toArray, List.getElem_cons_succ, List.getElem_cons_zero, Act.put, List.setIfInBounds_toArray, List.set_cons_zero, List.set_cons_succ]
                refine wpAnyH_take (i := 6) (v := ?_) rfl (by kernel_rfl) (by kernel_rfl) (by kernel_rfl) (fun _ _ _ h => h) (Or.inl ⟨by rfl, ?_⟩) hS ?_
                rotate_left
                · (intro wx hSx; (try dsimp only at hSx); go_simp; (try with_reducible rfl))
                simp only [List.getElem_toArray, List.getElem_cons_succ, List.getElem_cons_zero, Act.put, List.setIfInBounds_toArray, List.set_cons_zero, List.set_cons_succ]
                refine wpAnyH_take (i := 7) (v := ?_) rfl (by kernel_rfl) (by kernel_rfl) (by kernel_rfl) (fun _ _ _ h => h) (Or.inl ⟨by rfl, ?_⟩) hS ?_
                rotate_left
                · (intro wx hSx; (try dsimp only at hSx); go_simp; (try with_reducible rfl))
                simp only [List.getElem_toArray, List.getElem_cons_succ, List.getElem_cons_zero, Act.put, List.setIfInBounds_toArray, List.set_cons_zero, List.set_cons_succ]
                refine wpAnyH_take (i := 8) (v := ?_) rfl (by kernel_rfl) (by kernel_rfl) (by kernel_rfl) (fun _ _ _ h => h) (Or.inl ⟨by rfl, ?_⟩) hS ?_
                rotate_left
                · (intro wx hSx; (try dsimp only at hSx); go_simp; (try with_reducible rfl))
                simp only [List.getElem_toArray, List.getElem_cons_succ, List.getElem_cons_zero, Act.put, List.setIfInBounds_toArray, List.set_cons_zero, List.set_cons_succ]
                refine wpAnyH_take (i := 9) (v := ?_) rfl (by kernel_rfl) (by kernel_rfl) (by kernel_rfl) (fun _ _ _ h => h) (Or.inl ⟨by rfl, ?_⟩) hS ?_
                rotate_left
                · (intro wx hSx; (try dsimp only at hSx); go_simp; (try with_reducible rfl))
                simp only [List.getElem_toArray, List.getElem_cons_succ, List.getElem_cons_zero, Act.put, List.setIfInBounds_toArray, List.set_cons_zero, List.set_cons_succ]
                refine wpAnyH_take (i := 10) (v := ?_) rfl (by kernel_rfl) (by kernel_rfl) (by kernel_rfl) (fun _ _ _ h => h) (Or.inl ⟨by rfl, ?_⟩) hS ?_
                rotate_left
                · (intro wx hSx; (try dsimp only at hSx); go_simp; (try with_reducible rfl))
                simp only [List.getElem_toArray, List.getElem_cons_succ, List.getElem_cons_zero, Act.put, List.setIfInBounds_toArray, List.set_cons_zero, List.set_cons_succ]
                refine wpAnyH_take (i := 11) (v := ?_) rfl (by kernel_rfl) (by kernel_rfl) (by kernel_rfl) (fun _ _ _ h => h) (Or.inl ⟨by rfl, ?_⟩) hS ?_
                rotate_left
                · (intro wx hSx; (try dsimp only at hSx); go_simp; (try with_reducible rfl))
                simp only [List.getElem_toArray, List.getElem_cons_succ, List.getElem_cons_zero, Act.put, List.setIfInBounds_toArray, List.set_cons_zero, List.set_cons_succ]
                refine wpAnyH_take (i := 12) (v := ?_) rfl (by kernel_rfl) (by kernel_rfl) (by kernel_rfl) (fun _ _ _ h => h) (Or.inl ⟨by rfl, ?_⟩) hS ?_
                rotate_left
                · (intro wx hSx; (try dsimp only at hSx); go_simp; (try with_reducible rfl))
                simp only [List.getElem_toArray, List.getElem_cons_succ, List.getElem_cons_zero, Act.put, List.setIfInBounds_toArray, List.set_cons_zero, List.set_cons_succ]
                refine wpAnyH_take (i := 13) (v := ?_) rfl (by kernel_rfl) (by kernel_rfl) (by kernel_rfl) (fun _ _ _ h => h) (Or.inl ⟨by rfl, ?_⟩) hS ?_
                rotate_left
                · (intro wx hSx; (try dsimp only at hSx); go_simp; (try with_reducible rfl))
                simp only [List.getElem_toArray, List.getElem_cons_succ, List.getElem_cons_zero, Act.put, List.setIfInBounds_toArray, List.set_cons_zero, List.set_cons_succ]
                refine wpAnyH_take (i := 14) (v := ?_) rfl (by kernel_rfl) (by kernel_rfl) (by kernel_rfl) (fun _ _ _ h => h) (Or.inl ⟨by rfl, ?_⟩) hS ?_
                rotate_left
                · (intro wx hSx; (try dsimp only at hSx); go_simp; (try with_reducible rfl))
                simp only [List.getElem_toArray, List.getElem_cons_succ, List.getElem_cons_zero, Act.put, List.setIfInBounds_toArray, List.set_cons_zero, List.set_cons_succ]
                refine wpAnyH_take (i := 15) (v := ?_) rfl (by kernel_rfl) (by kernel_rfl) (by kernel_rfl) (fun _ _ _ h => h) (Or.inl ⟨by rfl, ?_⟩) hS ?_
                rotate_left
                · (intro wx hSx; (try dsimp only at hSx); go_simp; (try with_reducible rfl))
                simp only [List.getElem_toArray, List.getElem_cons_succ, List.getElem_cons_zero, Act.put, List.setIfInBounds_toArray, List.set_cons_zero, List.set_cons_succ]
                refine wpAnyH_take (i := 16) (v := ?_) rfl (by kernel_rfl) (by kernel_rfl) (by kernel_rfl) (fun _ _ _ h => h) (Or.inl ⟨by rfl, ?_⟩) hS ?_
                rotate_left
                · (intro wx hSx; (try dsimp only at hSx); go_simp; (try with_reducible rfl))
                simp only [List.getElem_toArray, List.getElem_cons_succ, List.getElem_cons_zero, Act.put, List.setIfInBounds_toArray, List.set_cons_zero, List.set_cons_succ]
                refine wpAnyH_take (i := 17) (v := ?_) rfl (by kernel_rfl) (by kernel_rfl) (by kernel_rfl) (fun _ _ _ h => h) (Or.inl ⟨by rfl, ?_⟩) hS ?_
                rotate_left
                · (intro wx hSx; (try dsimp only at hSx); go_simp; (try with_reducible rfl))
                simp only [List.getElem_toArray, List.getElem_cons_succ, List.getElem_cons_zero, Act.put, List.setIfInBounds_toArray, List.set_cons_zero, List.set_cons_succ]
                refine wpAnyH_take (i := 18) (v := ?_) rfl (by kernel_rfl) (by kernel_rfl) (by kernel_rfl) (fun _ _ _ h => h) (Or.inl ⟨by rfl, ?_⟩) hS ?_
                rotate_left
                · (intro wx hSx; (try dsimp only at hSx); go_simp; (try with_reducible rfl))
                simp only [List.getElem_toArray, List.getElem_cons_succ, List.getElem_cons_zero, Act.put, List.setIfInBounds_toArray, List.set_cons_zero, List.set_cons_succ]
                refine wpAnyH_take (i := 19) (v := ?_) rfl (by kernel_rfl) (by kernel_rfl) (by kernel_rfl) (fun _ _ _ h => h) (Or.inl ⟨by rfl, ?_⟩) hS ?_
                rotate_left
                · (intro wx hSx; (try dsimp only at hSx); go_simp; (try with_reducible rfl))
                simp only [List.getElem_toArray, List.getElem_cons_succ, List.getElem_cons_zero, Act.put, List.setIfInBounds_toArray, List.set_cons_zero, List.set_cons_succ]
                refine wpAnyH_take (i := 20) (v := ?_) rfl (by kernel_rfl) (by kernel_rfl) (by kernel_rfl) (fun _ _ _ h => h) (Or.inl ⟨by rfl, ?_⟩) hS ?_
                rotate_left
                · (intro wx hSx; (try dsimp only at hSx); go_simp; (try with_reducible rfl))
                simp only [List.getElem_toArray, List.getElem_cons_succ, List.getElem_cons_zero, Act.put, List.setIfInBounds_toArray, List.set_cons_zero, List.set_cons_succ]
                refine wpAnyH_done (by kernel_rfl) ?_ _
                refine NoPanic.normal ?_
                go_wp2_with fail
                go_meet
                exact ⟨congrArg Value.bool HB.out.symm, HM0.out _ hbn, HB0.out _ hbn⟩
            · have t5 : (m.idx == 0) = false := by rw [beq_eq_false_iff_ne]; exact a3
              have u5 : decide (m.idx = 0) = false := decide_eq_false a3
              have hB : Bq = true := by rw [HQ.out, t3, u4, u5]; rfl
              have HB := Lib.hid hB
              clear hB a3 u4 u5
              refine wp_region_noPanic ?_
              refine wp_region_held_drew (S := fun w' => w'.cell? ⟨w.heap.size, 0, none⟩ = some (.int .i64 m.kind) ∧ w'.cell? ⟨w.heap.size, 1, none⟩ = some (.int .i64 m.sess) ∧ w'.cell? ⟨w.heap.size, 2, none⟩ = some (.int .i64 m.num) ∧ w'.cell? ⟨w.heap.size, 3, none⟩ = some (.int .i64 m.job) ∧ w'.cell? ⟨w.heap.size, 4, none⟩ = some (.int .i64 m.badge) ∧ w'.cell? ⟨w.heap.size, 5, none⟩ = some (.int .i64 m.idx) ∧ w'.cell? ⟨w.heap.size, 6, none⟩ = some (.int .i64 m.cnt) ∧ w'.cell? ⟨w.heap.size, 7, none⟩ = some (.int .i64 m.code) ∧ w'.cell? ⟨w.heap.size, 8, none⟩ = some (.int .u64 m.bits) ∧ w'.cell? ⟨w.heap.size, 9, none⟩ = some (.string m.text) ∧ w'.cell? ⟨w.heap.size, 10, none⟩ = some (.string m.prog)) (by kernel_rfl) ⟨k0, k1, k2, k3, k4, k5, k6, k7, k8, k9, k10⟩ (fun hS => ?_)
              refine wpAnyH_take (i := 0) (v := ?_) rfl (by kernel_rfl) (by kernel_rfl) (by kernel_rfl) (fun _ _ _ h => h) (Or.inl ⟨by rfl, ?_⟩) hS ?_
              rotate_left
              · (intro wx hSx; (try dsimp only at hSx); go_simp; (try with_reducible rfl))
              simp only [List.getElem_toArray, List.getElem_cons_zero, Act.put, List.setIfInBounds_toArray, List.set_cons_zero, List.set_cons_succ]
              refine wpAnyH_take (i := 2) (v := ?_) rfl (by kernel_rfl) (by kernel_rfl) (by kernel_rfl) (fun _ _ _ h => h) (Or.inl ⟨by rfl, ?_⟩) hS ?_
              rotate_left
              · (intro wx hSx; (try dsimp only at hSx); go_simp; (try with_reducible rfl))
              simp only [List.getElem_toArray, List.getElem_cons_succ, List.getElem_cons_zero, Act.put, List.setIfInBounds_toArray, List.set_cons_zero, List.set_cons_succ]
              refine wpAnyH_ready (rs := [1]) (by kernel_rfl) (by simp) ?_
              refine AllReadyH.cons rfl (fun K hK => ?_) AllReadyH.nil
              go_simp
              go_at_call 46
              refine (HN.out _).mono ?_
              rintro x wn ⟨rfl, hbn⟩
              refine hK.out _ _ (HK.out _ _ hbn hS) (fun hS => ?_)
              clear hK K
              refine wpAnyH_take (i := 3) (v := ?_) rfl (by kernel_rfl) (by kernel_rfl) (by kernel_rfl) (fun _ _ _ h => h) (Or.inl ⟨by rfl, ?_⟩) hS ?_
              rotate_left
              · (intro wx hSx; (try dsimp only at hSx); go_simp; (try with_reducible rfl))
              simp only [List.getElem_toArray, List.getElem_cons_succ, List.getElem_cons_zero, Act.put, List.setIfInBounds_toArray, List.set_cons_zero, List.set_cons_succ]
              refine wpAnyH_take (i := 4) (v := ?_) rfl (by kernel_rfl) (by kernel_rfl) (by kernel_rfl) (fun _ _ _ h => h) (Or.inl ⟨by rfl, ?_⟩) hS ?_
              rotate_left
              · (intro wx hSx; (try dsimp only at hSx); go_simp; (try with_reducible rfl))
              simp only [List.getElem_toArray, List.getElem_cons_succ, List.getElem_cons_zero, Act.put, List.setIfInBounds_toArray, List.set_cons_zero, List.set_cons_succ]
              refine wpAnyH_take (i := 5) (v := ?_) rfl (by kernel_rfl) (by kernel_rfl) (by kernel_rfl) (fun _ _ _ h => h) (Or.inl ⟨by rfl, ?_⟩) hS ?_
              rotate_left
              · (intro wx hSx; (try dsimp only at hSx); go_simp; (try with_reducible rfl))
              simp only [List.getElem_toArray, List.getElem_cons_succ, List.getElem_cons_zero, Act.put, List.setIfInBounds_toArray, List.set_cons_zero, List.set_cons_succ]
              refine wpAnyH_take (i := 6) (v := ?_) rfl (by kernel_rfl) (by kernel_rfl) (by kernel_rfl) (fun _ _ _ h => h) (Or.inl ⟨by rfl, ?_⟩) hS ?_
              rotate_left
              · (intro wx hSx; (try dsimp only at hSx); go_simp; (try with_reducible rfl))
              simp only [List.getElem_toArray, List.getElem_cons_succ, List.getElem_cons_zero, Act.put, List.setIfInBounds_toArray, List.set_cons_zero, List.set_cons_succ]
              refine wpAnyH_take (i := 7) (v := ?_) rfl (by kernel_rfl) (by kernel_rfl) (by kernel_rfl) (fun _ _ _ h => h) (Or.inl ⟨by rfl, ?_⟩) hS ?_
              rotate_left
              · (intro wx hSx; (try dsimp only at hSx); go_simp; (try with_reducible rfl))
              simp only [List.getElem_toArray, List.getElem_cons_succ, List.getElem_cons_zero, Act.put, List.setIfInBounds_toArray, List.set_cons_zero, List.set_cons_succ]
              refine wpAnyH_take (i := 8) (v := ?_) rfl (by kernel_rfl) (by kernel_rfl) (by kernel_rfl) (fun _ _ _ h => h) (Or.inl ⟨by rfl, ?_⟩) hS ?_
              rotate_left
              · (intro wx hSx; (try dsimp only at hSx); go_simp; (try with_reducible rfl))
              simp only [List.getElem_toArray, List.getElem_cons_succ, List.getElem_cons_zero, Act.put, List.setIfInBounds_toArray, List.set_cons_zero, List.set_cons_succ]
              refine wpAnyH_take (i := 9) (v := ?_) rfl (by kernel_rfl) (by kernel_rfl) (by kernel_rfl) (fun _ _ _ h => h) (Or.inl ⟨by rfl, ?_⟩) hS ?_
              rotate_left
              · (intro wx hSx; (try dsimp only at hSx); go_simp; (try with_reducible rfl))
              simp only [List.getElem_toArray, List.getElem_cons_succ, List.getElem_cons_zero, Act.put, List.setIfInBounds_toArray, List.set_cons_zero, List.set_cons_succ]
              refine wpAnyH_take (i := 10) (v := ?_) rfl (by kernel_rfl) (by kernel_rfl) (by kernel_rfl) (fun _ _ _ h => h) (Or.inl ⟨by rfl, ?_⟩) hS ?_
              rotate_left
              · (intro wx hSx; (try dsimp only at hSx); go_simp; (try with_reducible rfl))
              simp only [List.getElem_toArray, List.getElem_cons_succ, List.getElem_cons_zero, Act.put, List.setIfInBounds_toArray, List.set_cons_zero, List.set_cons_succ]
              refine wpAnyH_take (i := 11) (v := ?_) rfl (by kernel_rfl) (by kernel_rfl) (by kernel_rfl) (fun _ _ _ h => h) (Or.inl ⟨by rfl, ?_⟩) hS ?_
              rotate_left
              · (intro wx hSx; (try dsimp only at hSx); go_simp; (try with_reducible rfl))
              simp only [List.getElem_toArray, List.getElem_cons_succ, List.getElem_cons_zero, Act.put, List.setIfInBounds_toArray, List.set_cons_zero, List.set_cons_succ]
              refine wpAnyH_take (i := 12) (v := ?_) rfl (by kernel_rfl) (by kernel_rfl) (by kernel_rfl) (fun _ _ _ h => h) (Or.inl ⟨by rfl, ?_⟩) hS ?_
              rotate_left
              · (intro wx hSx; (try dsimp only at hSx); go_simp; (try with_reducible rfl))
              simp only [List.getElem_toArray, List.getElem_cons_succ, List.getElem_cons_zero, Act.put, List.setIfInBounds_toArray, List.set_cons_zero, List.set_cons_succ]
              refine wpAnyH_take (i := 13) (v := ?_) rfl (by kernel_rfl) (by kernel_rfl) (by kernel_rfl) (fun _ _ _ h => h) (Or.inl ⟨by rfl, ?_⟩) hS ?_
              rotate_left
              · (intro wx hSx; (try dsimp only at hSx); go_simp; (try with_reducible rfl))
              simp only [List.getElem_toArray, List.getElem_cons_succ, List.getElem_cons_zero, Act.put, List.setIfInBounds_toArray, List.set_cons_zero, List.set_cons_succ]
              refine wpAnyH_take (i := 14) (v := undef) rfl (by kernel_rfl) (by kernel_rfl) (by kernel_rfl) (fun _ _ _ h => h) (Or.inr ⟨by rfl, rfl⟩) hS ?_
              simp only [List.getElem_toArray, List.getElem_cons_succ, List.getElem_cons_zero, Act.put, List.setIfInBounds_toArray, List.set_cons_zero, List.set_cons_succ]
              refine wpAnyH_take (i := 15) (v := undef) rfl (by kernel_rfl) (by kernel_rfl) (by kernel_rfl) (fun _ _ _ h => h) (Or.inr ⟨by rfl, rfl⟩) hS ?_
              simp only [List.getElem_toArray, List.getElem_cons_succ, List.getElem_cons_zero, Act.put, List.setIfInBounds_toArray, List.set_cons_zero, List.set_cons_succ]
              refine wpAnyH_take (i := 16) (v := undef) rfl (by kernel_rfl) (by kernel_rfl) (by kernel_rfl) (fun _ _ _ h => h) (Or.inr ⟨by rfl, rfl⟩) hS ?_
              simp only [List.getElem_toArray, List.getElem_cons_succ, List.getElem_cons_zero, Act.put, List.setIfInBounds_toArray, List.set_cons_zero, List.set_cons_succ]
              refine wpAnyH_take (i := 17) (v := ?_) rfl (by kernel_rfl) (by kernel_rfl) (by kernel_rfl) (fun _ _ _ h => h) (Or.inl ⟨by rfl, ?_⟩) hS ?_
              rotate_left
              · (intro wx hSx; (try dsimp only at hSx); go_simp; (try with_reducible rfl))
              simp only [List.getElem_toArray, List.getElem_cons_succ, List.getElem_cons_zero, Act.put, List.setIfInBounds_toArray, List.set_cons_zero, List.set_cons_succ]
              refine wpAnyH_take (i := 18) (v := ?_) rfl (by kernel_rfl) (by kernel_rfl) (by kernel_rfl) (fun _ _ _ h => h) (Or.inl ⟨by rfl, ?_⟩) hS ?_
              rotate_left
              · (intro wx hSx; (try dsimp only at hSx); go_simp; (try with_reducible rfl))
              simp only [List.getElem_toArray, List.getElem_cons_succ, List.getElem_cons_zero, Act.put, List.setIfInBounds_toArray, List.set_cons_zero, List.set_cons_succ]
              refine wpAnyH_take (i := 19) (v := ?_) rfl (by kernel_rfl) (by kernel_rfl) (by kernel_rfl) (fun _ _ _ h => h) (Or.inl ⟨by rfl, ?_⟩) hS ?_
              rotate_left
              · (intro wx hSx; (try dsimp only at hSx); go_simp; (try with_reducible rfl))
              simp only [List.getElem_toArray, List.getElem_cons_succ, List.getElem_cons_zero, Act.put, List.setIfInBounds_toArray, List.set_cons_zero, List.set_cons_succ]
              refine wpAnyH_take (i := 20) (v := ?_) rfl (by kernel_rfl) (by kernel_rfl) (by kernel_rfl) (fun _ _ _ h => h) (Or.inl ⟨by rfl, ?_⟩) hS ?_
              rotate_left
              · (intro wx hSx; (try dsimp only at hSx); go_simp; (try with_reducible rfl))
              simp only [List.getElem_toArray, List.getElem_cons_succ, List.getElem_cons_zero, Act.put, List.setIfInBounds_toArray, List.set_cons_zero, List.set_cons_succ]
              refine wpAnyH_done (by kernel_rfl) ?_ _
              refine NoPanic.normal ?_
              go_wp2_with fail
              go_meet
              exact ⟨congrArg Value.bool HB.out.symm, HM0.out _ hbn, HB0.out _ hbn⟩
          · have t4 : (m.kind == 6) = false := by rw [beq_eq_false_iff_ne]; exact a2
            have u4 : decide (m.kind = 6) = false := decide_eq_false a2
            have hB : Bq = true := by rw [HQ.out, t3, u4]; rfl
            have HB := Lib.hid hB
            clear hB a2 u4
            refine wp_region_noPanic ?_
            refine wp_region_held_drew (S := fun w' => w'.cell? ⟨w.heap.size, 0, none⟩ = some (.int .i64 m.kind) ∧ w'.cell? ⟨w.heap.size, 1, none⟩ = some (.int .i64 m.sess) ∧ w'.cell? ⟨w.heap.size, 2, none⟩ = some (.int .i64 m.num) ∧ w'.cell? ⟨w.heap.size, 3, none⟩ = some (.int .i64 m.job) ∧ w'.cell? ⟨w.heap.size, 4, none⟩ = some (.int .i64 m.badge) ∧ w'.cell? ⟨w.heap.size, 5, none⟩ = some (.int .i64 m.idx) ∧ w'.cell? ⟨w.heap.size, 6, none⟩ = some (.int .i64 m.cnt) ∧ w'.cell? ⟨w.heap.size, 7, none⟩ = some (.int .i64 m.code) ∧ w'.cell? ⟨w.heap.size, 8, none⟩ = some (.int .u64 m.bits) ∧ w'.cell? ⟨w.heap.size, 9, none⟩ = some (.string m.text) ∧ w'.cell? ⟨w.heap.size, 10, none⟩ = some (.string m.prog)) (by kernel_rfl) ⟨k0, k1, k2, k3, k4, k5, k6, k7, k8, k9, k10⟩ (fun hS => ?_)
            refine wpAnyH_take (i := 0) (v := ?_) rfl (by kernel_rfl) (by kernel_rfl) (by kernel_rfl) (fun _ _ _ h => h) (Or.inl ⟨by rfl, ?_⟩) hS ?_
            rotate_left
            · (intro wx hSx; (try dsimp only at hSx); go_simp; (try with_reducible rfl))
            simp only [List.getElem_toArray, List.getElem_cons_zero, Act.put, List.setIfInBounds_toArray, List.set_cons_zero, List.set_cons_succ]
            refine wpAnyH_take (i := 2) (v := ?_) rfl (by kernel_rfl) (by kernel_rfl) (by kernel_rfl) (fun _ _ _ h => h) (Or.inl ⟨by rfl, ?_⟩) hS ?_
            rotate_left
            · (intro wx hSx; (try dsimp only at hSx); go_simp; (try with_reducible rfl))
            simp only [List.getElem_toArray, List.getElem_cons_succ, List.getElem_cons_zero, Act.put, List.setIfInBounds_toArray, List.set_cons_zero, List.set_cons_succ]
            refine wpAnyH_ready (rs := [1]) (by kernel_rfl) (by simp) ?_
            refine AllReadyH.cons rfl (fun K hK => ?_) AllReadyH.nil
            go_simp
            go_at_call 46
            refine (HN.out _).mono ?_
            rintro x wn ⟨rfl, hbn⟩
            refine hK.out _ _ (HK.out _ _ hbn hS) (fun hS => ?_)
            clear hK K
            refine wpAnyH_take (i := 3) (v := ?_) rfl (by kernel_rfl) (by kernel_rfl) (by kernel_rfl) (fun _ _ _ h => h) (Or.inl ⟨by rfl, ?_⟩) hS ?_
            rotate_left
            · (intro wx hSx; (try dsimp only at hSx); go_simp; (try with_reducible rfl))
            simp only [List.getElem_toArray, List.getElem_cons_succ, List.getElem_cons_zero, Act.put, List.setIfInBounds_toArray, List.set_cons_zero, List.set_cons_succ]
            refine wpAnyH_take (i := 4) (v := ?_) rfl (by kernel_rfl) (by kernel_rfl) (by kernel_rfl) (fun _ _ _ h => h) (Or.inl ⟨by rfl, ?_⟩) hS ?_
            rotate_left
            · (intro wx hSx; (try dsimp only at hSx); go_simp; (try with_reducible rfl))
            simp only [List.getElem_toArray, List.getElem_cons_succ, List.getElem_cons_zero, Act.put, List.setIfInBounds_toArray, List.set_cons_zero, List.set_cons_succ]
            refine wpAnyH_take (i := 5) (v := ?_) rfl (by kernel_rfl) (by kernel_rfl) (by kernel_rfl) (fun _ _ _ h => h) (Or.inl ⟨by rfl, ?_⟩) hS ?_
            rotate_left
            · (intro wx hSx; (try dsimp only at hSx); go_simp; (try with_reducible rfl))
            simp only [List.getElem_toArray, List.getElem_cons_succ, List.getElem_cons_zero, Act.put, List.setIfInBounds_toArray, List.set_cons_zero, List.set_cons_succ]
            refine wpAnyH_take (i := 6) (v := ?_) rfl (by kernel_rfl) (by kernel_rfl) (by kernel_rfl) (fun _ _ _ h => h) (Or.inl ⟨by rfl, ?_⟩) hS ?_
            rotate_left
            · (intro wx hSx; (try dsimp only at hSx); go_simp; (try with_reducible rfl))
            simp only [List.getElem_toArray, List.getElem_cons_succ, List.getElem_cons_zero, Act.put, List.setIfInBounds_toArray, List.set_cons_zero, List.set_cons_succ]
            refine wpAnyH_take (i := 7) (v := ?_) rfl (by kernel_rfl) (by kernel_rfl) (by kernel_rfl) (fun _ _ _ h => h) (Or.inl ⟨by rfl, ?_⟩) hS ?_
            rotate_left
            · (intro wx hSx; (try dsimp only at hSx); go_simp; (try with_reducible rfl))
            simp only [List.getElem_toArray, List.getElem_cons_succ, List.getElem_cons_zero, Act.put, List.setIfInBounds_toArray, List.set_cons_zero, List.set_cons_succ]
            refine wpAnyH_take (i := 8) (v := ?_) rfl (by kernel_rfl) (by kernel_rfl) (by kernel_rfl) (fun _ _ _ h => h) (Or.inl ⟨by rfl, ?_⟩) hS ?_
            rotate_left
            · (intro wx hSx; (try dsimp only at hSx); go_simp; (try with_reducible rfl))
            simp only [List.getElem_toArray, List.getElem_cons_succ, List.getElem_cons_zero, Act.put, List.setIfInBounds_toArray, List.set_cons_zero, List.set_cons_succ]
            refine wpAnyH_take (i := 9) (v := undef) rfl (by kernel_rfl) (by kernel_rfl) (by kernel_rfl) (fun _ _ _ h => h) (Or.inr ⟨by rfl, rfl⟩) hS ?_
            simp only [List.getElem_toArray, List.getElem_cons_succ, List.getElem_cons_zero, Act.put, List.setIfInBounds_toArray, List.set_cons_zero, List.set_cons_succ]
            refine wpAnyH_take (i := 10) (v := undef) rfl (by kernel_rfl) (by kernel_rfl) (by kernel_rfl) (fun _ _ _ h => h) (Or.inr ⟨by rfl, rfl⟩) hS ?_
            simp only [List.getElem_toArray, List.getElem_cons_succ, List.getElem_cons_zero, Act.put, List.setIfInBounds_toArray, List.set_cons_zero, List.set_cons_succ]
            refine wpAnyH_take (i := 11) (v := undef) rfl (by kernel_rfl) (by kernel_rfl) (by kernel_rfl) (fun _ _ _ h => h) (Or.inr ⟨by rfl, rfl⟩) hS ?_
            simp only [List.getElem_toArray, List.getElem_cons_succ, List.getElem_cons_zero, Act.put, List.setIfInBounds_toArray, List.set_cons_zero, List.set_cons_succ]
            refine wpAnyH_take (i := 12) (v := ?_) rfl (by kernel_rfl) (by kernel_rfl) (by kernel_rfl) (fun _ _ _ h => h) (Or.inl ⟨by rfl, ?_⟩) hS ?_
            rotate_left
            · (intro wx hSx; (try dsimp only at hSx); go_simp; (try with_reducible rfl))
            simp only [List.getElem_toArray, List.getElem_cons_succ, List.getElem_cons_zero, Act.put, List.setIfInBounds_toArray, List.set_cons_zero, List.set_cons_succ]
            refine wpAnyH_take (i := 13) (v := ?_) rfl (by kernel_rfl) (by kernel_rfl) (by kernel_rfl) (fun _ _ _ h => h) (Or.inl ⟨by rfl, ?_⟩) hS ?_
            rotate_left
            · (intro wx hSx; (try dsimp only at hSx); go_simp; (try with_reducible rfl))
            simp only [List.getElem_toArray, List.getElem_cons_succ, List.getElem_cons_zero, Act.put, List.setIfInBounds_toArray, List.set_cons_zero, List.set_cons_succ]
            refine wpAnyH_take (i := 14) (v := undef) rfl (by kernel_rfl) (by kernel_rfl) (by kernel_rfl) (fun _ _ _ h => h) (Or.inr ⟨by rfl, rfl⟩) hS ?_
            simp only [List.getElem_toArray, List.getElem_cons_succ, List.getElem_cons_zero, Act.put, List.setIfInBounds_toArray, List.set_cons_zero, List.set_cons_succ]
            refine wpAnyH_take (i := 15) (v := undef) rfl (by kernel_rfl) (by kernel_rfl) (by kernel_rfl) (fun _ _ _ h => h) (Or.inr ⟨by rfl, rfl⟩) hS ?_
            simp only [List.getElem_toArray, List.getElem_cons_succ, List.getElem_cons_zero, Act.put, List.setIfInBounds_toArray, List.set_cons_zero, List.set_cons_succ]
            refine wpAnyH_take (i := 16) (v := undef) rfl (by kernel_rfl) (by kernel_rfl) (by kernel_rfl) (fun _ _ _ h => h) (Or.inr ⟨by rfl, rfl⟩) hS ?_
            simp only [List.getElem_toArray, List.getElem_cons_succ, List.getElem_cons_zero, Act.put, List.setIfInBounds_toArray, List.set_cons_zero, List.set_cons_succ]
            refine wpAnyH_take (i := 17) (v := ?_) rfl (by kernel_rfl) (by kernel_rfl) (by kernel_rfl) (fun _ _ _ h => h) (Or.inl ⟨by rfl, ?_⟩) hS ?_
            rotate_left
            · (intro wx hSx; (try dsimp only at hSx); go_simp; (try with_reducible rfl))
            simp only [List.getElem_toArray, List.getElem_cons_succ, List.getElem_cons_zero, Act.put, List.setIfInBounds_toArray, List.set_cons_zero, List.set_cons_succ]
            refine wpAnyH_take (i := 18) (v := ?_) rfl (by kernel_rfl) (by kernel_rfl) (by kernel_rfl) (fun _ _ _ h => h) (Or.inl ⟨by rfl, ?_⟩) hS ?_
            rotate_left
            · (intro wx hSx; (try dsimp only at hSx); go_simp; (try with_reducible rfl))
            simp only [List.getElem_toArray, List.getElem_cons_succ, List.getElem_cons_zero, Act.put, List.setIfInBounds_toArray, List.set_cons_zero, List.set_cons_succ]
            refine wpAnyH_take (i := 19) (v := ?_) rfl (by kernel_rfl) (by kernel_rfl) (by kernel_rfl) (fun _ _ _ h => h) (Or.inl ⟨by rfl, ?_⟩) hS ?_
            rotate_left
            · (intro wx hSx; (try dsimp only at hSx); go_simp; (try with_reducible rfl))
            simp only [List.getElem_toArray, List.getElem_cons_succ, List.getElem_cons_zero, Act.put, List.setIfInBounds_toArray, List.set_cons_zero, List.set_cons_succ]
            refine wpAnyH_take (i := 20) (v := ?_) rfl (by kernel_rfl) (by kernel_rfl) (by kernel_rfl) (fun _ _ _ h => h) (Or.inl ⟨by rfl, ?_⟩) hS ?_
            rotate_left
            · (intro wx hSx; (try dsimp only at hSx); go_simp; (try with_reducible rfl))
            simp only [List.getElem_toArray, List.getElem_cons_succ, List.getElem_cons_zero, Act.put, List.setIfInBounds_toArray, List.set_cons_zero, List.set_cons_succ]
            refine wpAnyH_done (by kernel_rfl) ?_ _
            refine NoPanic.normal ?_
            go_wp2_with fail
            go_meet
            exact ⟨congrArg Value.bool HB.out.symm, HM0.out _ hbn, HB0.out _ hbn⟩
        · have t3 : decide (M = m) = false := decide_eq_false a1
          have hB : Bq = false := by rw [HQ.out, t3]; rfl
          have HB := Lib.hid hB
          clear hB a1
          refine wp_region_noPanic ?_
          refine wp_region_held_drew (S := fun w' => w'.cell? ⟨w.heap.size, 0, none⟩ = some (.int .i64 m.kind) ∧ w'.cell? ⟨w.heap.size, 1, none⟩ = some (.int .i64 m.sess) ∧ w'.cell? ⟨w.heap.size, 2, none⟩ = some (.int .i64 m.num) ∧ w'.cell? ⟨w.heap.size, 3, none⟩ = some (.int .i64 m.job) ∧ w'.cell? ⟨w.heap.size, 4, none⟩ = some (.int .i64 m.badge) ∧ w'.cell? ⟨w.heap.size, 5, none⟩ = some (.int .i64 m.idx) ∧ w'.cell? ⟨w.heap.size, 6, none⟩ = some (.int .i64 m.cnt) ∧ w'.cell? ⟨w.heap.size, 7, none⟩ = some (.int .i64 m.code) ∧ w'.cell? ⟨w.heap.size, 8, none⟩ = some (.int .u64 m.bits) ∧ w'.cell? ⟨w.heap.size, 9, none⟩ = some (.string m.text) ∧ w'.cell? ⟨w.heap.size, 10, none⟩ = some (.string m.prog)) (by kernel_rfl) ⟨k0, k1, k2, k3, k4, k5, k6, k7, k8, k9, k10⟩ (fun hS => ?_)
          refine wpAnyH_take (i := 0) (v := ?_) rfl (by kernel_rfl) (by kernel_rfl) (by kernel_rfl) (fun _ _ _ h => h) (Or.inl ⟨by rfl, ?_⟩) hS ?_
          rotate_left
          · (intro wx hSx; (try dsimp only at hSx); go_simp; (try with_reducible rfl))
          simp only [List.getElem_toArray, List.getElem_cons_zero, Act.put, List.setIfInBounds_toArray, List.set_cons_zero, List.set_cons_succ]
          refine wpAnyH_take (i := 2) (v := ?_) rfl (by kernel_rfl) (by kernel_rfl) (by kernel_rfl) (fun _ _ _ h => h) (Or.inl ⟨by rfl, ?_⟩) hS ?_
          rotate_left
          · (intro wx hSx; (try dsimp only at hSx); go_simp; (try with_reducible rfl))
          simp only [List.getElem_toArray, List.getElem_cons_succ, List.getElem_cons_zero, Act.put, List.setIfInBounds_toArray, List.set_cons_zero, List.set_cons_succ]
          refine wpAnyH_ready (rs := [1]) (by kernel_rfl) (by simp) ?_
          refine AllReadyH.cons rfl (fun K hK => ?_) AllReadyH.nil
          go_simp
          go_at_call 46
          refine (HN.out _).mono ?_
          rintro x wn ⟨rfl, hbn⟩
          refine hK.out _ _ (HK.out _ _ hbn hS) (fun hS => ?_)
          clear hK K
          refine wpAnyH_take (i := 3) (v := ?_) rfl (by kernel_rfl) (by kernel_rfl) (by kernel_rfl) (fun _ _ _ h => h) (Or.inl ⟨by rfl, ?_⟩) hS ?_
          rotate_left
          · (intro wx hSx; (try dsimp only at hSx); go_simp; (try with_reducible rfl))
          simp only [List.getElem_toArray, List.getElem_cons_succ, List.getElem_cons_zero, Act.put, List.setIfInBounds_toArray, List.set_cons_zero, List.set_cons_succ]
          refine wpAnyH_take (i := 4) (v := ?_) rfl (by kernel_rfl) (by kernel_rfl) (by kernel_rfl) (fun _ _ _ h => h) (Or.inl ⟨by rfl, ?_⟩) hS ?_
          rotate_left
          · (intro wx hSx; (try dsimp only at hSx); go_simp; (try with_reducible rfl))
          simp only [List.getElem_toArray, List.getElem_cons_succ, List.getElem_cons_zero, Act.put, List.setIfInBounds_toArray, List.set_cons_zero, List.set_cons_succ]
          refine wpAnyH_take (i := 5) (v := undef) rfl (by kernel_rfl) (by kernel_rfl) (by kernel_rfl) (fun _ _ _ h => h) (Or.inr ⟨by rfl, rfl⟩) hS ?_
          simp only [List.getElem_toArray, List.getElem_cons_succ, List.getElem_cons_zero, Act.put, List.setIfInBounds_toArray, List.set_cons_zero, List.set_cons_succ]
          refine wpAnyH_take (i := 6) (v := undef) rfl (by kernel_rfl) (by kernel_rfl) (by kernel_rfl) (fun _ _ _ h => h) (Or.inr ⟨by rfl, rfl⟩) hS ?_
          simp only [List.getElem_toArray, List.getElem_cons_succ, List.getElem_cons_zero, Act.put, List.setIfInBounds_toArray, List.set_cons_zero, List.set_cons_succ]
          refine wpAnyH_take (i := 7) (v := undef) rfl (by kernel_rfl) (by kernel_rfl) (by kernel_rfl) (fun _ _ _ h => h) (Or.inr ⟨by rfl, rfl⟩) hS ?_
          simp only [List.getElem_toArray, List.getElem_cons_succ, List.getElem_cons_zero, Act.put, List.setIfInBounds_toArray, List.set_cons_zero, List.set_cons_succ]
          refine wpAnyH_take (i := 8) (v := undef) rfl (by kernel_rfl) (by kernel_rfl) (by kernel_rfl) (fun _ _ _ h => h) (Or.inr ⟨by rfl, rfl⟩) hS ?_
          simp only [List.getElem_toArray, List.getElem_cons_succ, List.getElem_cons_zero, Act.put, List.setIfInBounds_toArray, List.set_cons_zero, List.set_cons_succ]
          refine wpAnyH_take (i := 9) (v := undef) rfl (by kernel_rfl) (by kernel_rfl) (by kernel_rfl) (fun _ _ _ h => h) (Or.inr ⟨by rfl, rfl⟩) hS ?_
          simp only [List.getElem_toArray, List.getElem_cons_succ, List.getElem_cons_zero, Act.put, List.setIfInBounds_toArray, List.set_cons_zero, List.set_cons_succ]
          refine wpAnyH_take (i := 10) (v := undef) rfl (by kernel_rfl) (by kernel_rfl) (by kernel_rfl) (fun _ _ _ h => h) (Or.inr ⟨by rfl, rfl⟩) hS ?_
          simp only [List.getElem_toArray, List.getElem_cons_succ, List.getElem_cons_zero, Act.put, List.setIfInBounds_toArray, List.set_cons_zero, List.set_cons_succ]
          refine wpAnyH_take (i := 11) (v := undef) rfl (by kernel_rfl) (by kernel_rfl) (by kernel_rfl) (fun _ _ _ h => h) (Or.inr ⟨by rfl, rfl⟩) hS ?_
          simp only [List.getElem_toArray, List.getElem_cons_succ, List.getElem_cons_zero, Act.put, List.setIfInBounds_toArray, List.set_cons_zero, List.set_cons_succ]
          refine wpAnyH_take (i := 12) (v := undef) rfl (by kernel_rfl) (by kernel_rfl) (by kernel_rfl) (fun _ _ _ h => h) (Or.inr ⟨by rfl, rfl⟩) hS ?_
          simp only [List.getElem_toArray, List.getElem_cons_succ, List.getElem_cons_zero, Act.put, List.setIfInBounds_toArray, List.set_cons_zero, List.set_cons_succ]
          refine wpAnyH_take (i := 13) (v := undef) rfl (by kernel_rfl) (by kernel_rfl) (by kernel_rfl) (fun _ _ _ h => h) (Or.inr ⟨by rfl, rfl⟩) hS ?_
          simp only [List.getElem_toArray, List.getElem_cons_succ, List.getElem_cons_zero, Act.put, List.setIfInBounds_toArray, List.set_cons_zero, List.set_cons_succ]
          refine wpAnyH_take (i := 14) (v := undef) rfl (by kernel_rfl) (by kernel_rfl) (by kernel_rfl) (fun _ _ _ h => h) (Or.inr ⟨by rfl, rfl⟩) hS ?_
          simp only [List.getElem_toArray, List.getElem_cons_succ, List.getElem_cons_zero, Act.put, List.setIfInBounds_toArray, List.set_cons_zero, List.set_cons_succ]
          refine wpAnyH_take (i := 15) (v := undef) rfl (by kernel_rfl) (by kernel_rfl) (by kernel_rfl) (fun _ _ _ h => h) (Or.inr ⟨by rfl, rfl⟩) hS ?_
          simp only [List.getElem_toArray, List.getElem_cons_succ, List.getElem_cons_zero, Act.put, List.setIfInBounds_toArray, List.set_cons_zero, List.set_cons_succ]
          refine wpAnyH_take (i := 16) (v := undef) rfl (by kernel_rfl) (by kernel_rfl) (by kernel_rfl) (fun _ _ _ h => h) (Or.inr ⟨by rfl, rfl⟩) hS ?_
          simp only [List.getElem_toArray, List.getElem_cons_succ, List.getElem_cons_zero, Act.put, List.setIfInBounds_toArray, List.set_cons_zero, List.set_cons_succ]
          refine wpAnyH_take (i := 17) (v := undef) rfl (by kernel_rfl) (by kernel_rfl) (by kernel_rfl) (fun _ _ _ h => h) (Or.inr ⟨by rfl, rfl⟩) hS ?_
          simp only [List.getElem_toArray, List.getElem_cons_succ, List.getElem_cons_zero, Act.put, List.setIfInBounds_toArray, List.set_cons_zero, List.set_cons_succ]
          refine wpAnyH_take (i := 18) (v := undef) rfl (by kernel_rfl) (by kernel_rfl) (by kernel_rfl) (fun _ _ _ h => h) (Or.inr ⟨by rfl, rfl⟩) hS ?_
          simp only [List.getElem_toArray, List.getElem_cons_succ, List.getElem_cons_zero, Act.put, List.setIfInBounds_toArray, List.set_cons_zero, List.set_cons_succ]
          refine wpAnyH_take (i := 19) (v := ?_) rfl (by kernel_rfl) (by kernel_rfl) (by kernel_rfl) (fun _ _ _ h => h) (Or.inl ⟨by rfl, ?_⟩) hS ?_
          rotate_left
          · (intro wx hSx; (try dsimp only at hSx); go_simp; (try with_reducible rfl))
          simp only [List.getElem_toArray, List.getElem_cons_succ, List.getElem_cons_zero, Act.put, List.setIfInBounds_toArray, List.set_cons_zero, List.set_cons_succ]
          refine wpAnyH_take (i := 20) (v := ?_) rfl (by kernel_rfl) (by kernel_rfl) (by kernel_rfl) (fun _ _ _ h => h) (Or.inl ⟨by rfl, ?_⟩) hS ?_
          rotate_left
          · (intro wx hSx; (try dsimp only at hSx); go_simp; (try with_reducible rfl))
          simp only [List.getElem_toArray, List.getElem_cons_succ, List.getElem_cons_zero, Act.put, List.setIfInBounds_toArray, List.set_cons_zero, List.set_cons_succ]
          refine wpAnyH_done (by kernel_rfl) ?_ _
          refine NoPanic.normal ?_
          go_wp2_with fail
          go_meet
          exact ⟨congrArg Value.bool HB.out.symm, HM0.out _ hbn, HB0.out _ hbn⟩
      case rest =>
        obtain ⟨rfl, hmc, hbc⟩ := hcut
        obtain ⟨q0, _⟩ := Ms.all hmc
        go_wp2_with fail
        refine (fields_int m.kind _ (by omega) (by omega)).mono ?_
        rintro x w1 ⟨A, rfl, hF, hb1⟩
        have hok := fieldsOf_ok m.kind.toNat
        have hlen := fieldsOf_len m.kind.toNat
        generalize fieldsOf m.kind.toNat = L at hF hok hlen HC ⊢
        have hlo : w.heap.size < wc.heap.size := Cells.lt hmc
        have hm1 : Ms w1 w.heap.size m := Cells.keep hmc hb1
        have hbw1 : Below w.heap.size w w1 := hbc.trans (hb1.mono (by omega))
        have hlohi := hb1.size
        have HOK := Lib.hid hok
        clear hok q0 k0 k1 k2 k3 k4 k5 k6 k7 k8 k9 k10 hmc hq HN HMW HK HM0 HB0
        go_wp2_with fail
        go_loopw [38, 3] (fun i ok wx => ∃ j : Nat, j ≤ L.length ∧ i = .int .i64 (j : Int) ∧ ok = .bool (Bq && (L.take j).all fun f => f.may m) ∧ FieldsAt wx wc.heap.size w1.heap.size A L ∧ Ms wx w.heap.size m ∧ Below w.heap.size w wx ∧ w1.heap.size ≤ wx.heap.size) (fun i _ _ => L.length - (intOf i).toNat)
        case atStart => exact ⟨0, Nat.zero_le _, rfl, by simp, hF, hm1, hbw1, Nat.le_refl _⟩
        case round =>
          obtain ⟨j, hj, rfl, rfl, hFr, hmr, hbr, hsr⟩ := hrel
          by_cases hlt : j < L.length
          · have hall : ((L.take (j + 1)).all fun f => f.may m) = (((L.take j).all fun f => f.may m) && (L[j]).may m) := by
              rw [List.take_succ_eq_append_getElem hlt, List.all_append]
              simp
            obtain ⟨g, rfl, hg, v1, v2, v3, e1, e2, e3, hv⟩ := hFr.get (List.getElem?_eq_getElem hlt)
            have hfok := HOK.out L[j] (List.getElem_mem hlt)
            have HALL := Lib.hid hall
            clear hall
            generalize hf0 : L[j] = f at hv hfok HALL
            clear hf0
            generalize (L.take j).all (fun f => f.may m) = B0 at HALL ⊢
            have hi0 : (0 : Int) ≤ (j : Int) := by omega
            have hi1 : (j : Int) < (L.length : Int) := by omega
            cases f with
            | whole k l h =>
              obtain ⟨b1, b2, b3, r1, r2, r3, rfl, rfl, rfl, c1, c2, c3⟩ := hv
              have hk : 1 ≤ k ∧ k ≤ 6 := by simpa [Fd.ok] using hfok
              have hcall := fun (o : Obj) => wholeMay w.heap.size b1 b2 b3 k l h m _ (c1.alloc o) (c2.alloc o) (c3.alloc o) (Cells.alloc hmr o) hk.1 hk.2
              generalize (Fd.whole k l h).may m = B1 at HALL hcall
              have HCALL := Lib.hid hcall
              clear hcall c1 c2 c3
              cases hB : (Bq && B0) with
              | true =>
                go_wp2_with fail
                refine (HCALL.out _).mono ?_
                rintro x w2 ⟨rfl, nd, rfl⟩
                have HE := Lib.hid <| rel_end hFr hmr hbr hsr (below_drewN (below_new0 wr (.cells #[.func (.func 59) #[] #[ptr b1, ptr b2, ptr b3], .func (.func 60) #[] #[ptr b1], .func (.func 61) #[] #[ptr b1]] 79)) nd)
                go_wp2
                go_roundw
                case rel => exact ⟨j + 1, by omega, by go_num, by rw [HALL.out, ← Bool.and_assoc, hB]; rfl, HE.out.1, HE.out.2.1, HE.out.2.2.1, HE.out.2.2.2⟩
                case measure => simp [intOf]; omega
              | false =>
                have HE := Lib.hid <| rel_end hFr hmr hbr hsr (below_new0 _ (.cells #[.func (.func 59) #[] #[ptr b1, ptr b2, ptr b3], .func (.func 60) #[] #[ptr b1], .func (.func 61) #[] #[ptr b1]] 79))
                go_wp2
                go_roundw
                case rel => exact ⟨j + 1, by omega, by go_num, by rw [HALL.out, ← Bool.and_assoc, hB]; rfl, HE.out.1, HE.out.2.1, HE.out.2.2.1, HE.out.2.2.2⟩
                case measure => simp [intOf]; omega
            | text k l h =>
              obtain ⟨b1, b2, b3, r1, r2, r3, rfl, rfl, rfl, c1, c2, c3⟩ := hv
              have hk : (k = 9 ∨ k = 10) ∧ h ≤ 1024 := by simpa [Fd.ok] using hfok
              have hsz : (m.str k).size < 1073741824 := by
                rcases hk.1 with rfl | rfl
                · exact hfit.text
                · exact hfit.prog
              have hcall := fun (o : Obj) => textMay w.heap.size b1 b2 b3 k l h m _ (c1.alloc o) (c2.alloc o) (c3.alloc o) (Cells.alloc hmr o) hk.1 hsz
              clear hsz hk hfok
              generalize (Fd.text k l h).may m = B1 at HALL hcall
              have HCALL := Lib.hid hcall
              clear hcall c1 c2 c3
              cases hB : (Bq && B0) with
              | true =>
                go_wp2_with fail
                refine (HCALL.out _).mono ?_
                rintro x w2 ⟨rfl, nd, rfl⟩
                have HE := Lib.hid <| rel_end hFr hmr hbr hsr (below_drewN (below_new0 wr (.cells #[.func (.func 62) #[] #[ptr b1, ptr b2, ptr b3], .func (.func 63) #[] #[ptr b1], .func (.func 65) #[] #[ptr b3, ptr b1]] 79)) nd)
                go_wp2
                go_roundw
                case rel => exact ⟨j + 1, by omega, by go_num, by rw [HALL.out, ← Bool.and_assoc, hB]; rfl, HE.out.1, HE.out.2.1, HE.out.2.2.1, HE.out.2.2.2⟩
                case measure => simp [intOf]; omega
              | false =>
                have HE := Lib.hid <| rel_end hFr hmr hbr hsr (below_new0 _ (.cells #[.func (.func 62) #[] #[ptr b1, ptr b2, ptr b3], .func (.func 63) #[] #[ptr b1], .func (.func 65) #[] #[ptr b3, ptr b1]] 79))
                go_wp2
                go_roundw
                case rel => exact ⟨j + 1, by omega, by go_num, by rw [HALL.out, ← Bool.and_assoc, hB]; rfl, HE.out.1, HE.out.2.1, HE.out.2.2.1, HE.out.2.2.2⟩
                case measure => simp [intOf]; omega
            | result =>
              obtain ⟨rfl, rfl, rfl⟩ := hv
              have hcall := fun (o : Obj) => resultMay w.heap.size m _ (Cells.alloc hmr o) hfit.bits
              generalize Fd.result.may m = B1 at HALL hcall
              have HCALL := Lib.hid hcall
              clear hcall
              unfold fn0 at e1 e2 e3
              cases hB : (Bq && B0) with
              | true =>
                go_wp2_with fail
                refine (HCALL.out _).mono ?_
                rintro x w2 ⟨rfl, hb2⟩
                have HE := Lib.hid <| rel_end hFr hmr hbr hsr ((below_new0 wr (.cells #[fn0 67, fn0 69, fn0 71] 79)).trans (hb2.mono (by simp)))
                go_wp2
                go_roundw
                case rel => exact ⟨j + 1, by omega, by go_num, by rw [HALL.out, ← Bool.and_assoc, hB]; rfl, HE.out.1, HE.out.2.1, HE.out.2.2.1, HE.out.2.2.2⟩
                case measure => simp [intOf]; omega
              | false =>
                have HE := Lib.hid <| rel_end hFr hmr hbr hsr (below_new0 _ (.cells #[fn0 67, fn0 69, fn0 71] 79))
                go_wp2
                go_roundw
                case rel => exact ⟨j + 1, by omega, by go_num, by rw [HALL.out, ← Bool.and_assoc, hB]; rfl, HE.out.1, HE.out.2.1, HE.out.2.2.1, HE.out.2.2.2⟩
                case measure => simp [intOf]; omega
          · have hjl : j = L.length := by omega
            subst hjl
            rw [List.take_of_length_le (Nat.le_refl _)]
            cases hB : (Bq && L.all fun f => f.may m) with
            | true =>
              have hchk := HC.out
              rw [hB] at hchk
              have HC2 := Lib.hid hchk
              clear hchk
              go_wp2
              go_ret
              exact ⟨by rw [HC2.out]; rfl, hbr⟩
            | false =>
              have hchk := HC.out
              rw [hB] at hchk
              have HC2 := Lib.hid hchk
              clear hchk
              go_wp2
              go_ret
              exact ⟨by rw [HC2.out]; rfl, hbr⟩
end Go.Proofs.Ytpnfdmglhonkmaa
