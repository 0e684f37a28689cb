/- reads: things read one behind the other. -/
import Derived.Test.YtefablceddbolaaThings
namespace Go.Proofs.Ytefablceddbolaa
open Go.RowKit

set_option maxHeartbeats 4000000 in
theorem reads_any (b : ByteArray) (A : Option Addr) (n c : Nat) (l : List Th) (w : World) (hb : b.size < 4294967296) (hsl : Sl w w.heap.size 3 A n (thCell l)) (hl : l.length = n) (hn : n < 1048576) (hts : thSize l ≤ 1048576) :
    Calls Try.prog 16 #[.string b, .slice A n c] w fun x w' => x = .returned (.tuple #[.int .i64 (endE b (rdAll b l (0, 0, true)).1 (rdAll b l (0, 0, true)).2.1), .bool (rdAll b l (0, 0, true)).2.2]) ∧ Below w.heap.size w w' := by
  have HSL := Lib.hid hsl
  have HL := Lib.hid hl
  obtain ⟨R, hR⟩ : ∃ R, R = rdAll b l (0, 0, true) := ⟨_, rfl⟩
  have HR := Lib.hid hR
  rw [← hR]
  clear hsl hl hR
  go_enter Try.func16, Try.ntmps16
  go_wp2_with fail
  refine (read_any _ _).mono ?_
  rintro x w1 ⟨rfl, hR1, hb1, hs1⟩
  clear hs1
  go_wp2
  go_loopw [7, 8] (fun ok i wr => ∃ (k p : Nat) (e : Int) (o : Bool), k ≤ n ∧ i = .int .i64 (k : Int) ∧ ok = .bool o ∧ p ≤ b.size ∧ Rdr wr w.heap.size b p e ∧ Below w.heap.size w wr ∧ Hid (R = rdAll b (l.drop k) (p, e, o))) (fun _ i _ => n - (intOf i).toNat)
  case atStart => exact ⟨0, 0, 0, true, Nat.zero_le _, rfl, rfl, Nat.zero_le _, hR1, hb1, HR⟩
  case round =>
    obtain ⟨k, p, e, o, hk, rfl, rfl, hp, hRr, hBr, HRR⟩ := hrel
    by_cases hlt : k < n
    · obtain ⟨bb, off, rfl, hbb, hc⟩ := HSL.out (by omega)
      have hkl : k < l.length := by have := HL.out; omega
      have hne : bb ≠ w.heap.size := by omega
      have q0 := (hBr.cell (p := ⟨bb, off + k * 3, none⟩) hbb).trans (hc (k * 3) (by omega))
      have q1 := (hBr.cell (p := ⟨bb, off + (k * 3 + 1), none⟩) hbb).trans (hc (k * 3 + 1) (by omega))
      have q2 := (hBr.cell (p := ⟨bb, off + (k * 3 + 2), none⟩) hbb).trans (hc (k * 3 + 2) (by omega))
      rw [thCell0] at q0
      rw [thCell1, ← Nat.add_assoc] at q1
      rw [thCell2, ← Nat.add_assoc] at q2
      obtain ⟨t, ht⟩ : ∃ t, t = l.getD k default := ⟨_, rfl⟩
      rw [← ht] at q0 q1 q2
      have hsmall : t.s.length ≤ 1048576 := by
        have hm : t ∈ l := by rw [ht]; simp [hkl]
        exact Nat.le_trans (thSize_mem hm) hts
      have hstep : R = rdAll b (l.drop (k + 1)) ((rd1 b t p e).2.1, (rd1 b t p e).2.2, (rd1 b t p e).1 && o) := by
        have h := HRR.out
        rw [List.drop_eq_getElem_cons hkl, rdAll] at h
        have : l[k] = t := by rw [ht]; simp [hkl]
        rw [this] at h
        exact h
      have HST := Lib.hid hstep
      clear hc ht hstep HRR
      by_cases k1 : t.k = 1
      · rw [k1] at q0
        have hr1 : rd1 b t p e = ((rdrStep 0 (upR (numR (b.data.toList.drop p) 18446744073709551615 21)) p e).1 == (t.n : Int), (rdrStep 0 (upR (numR (b.data.toList.drop p) 18446744073709551615 21)) p e).2) := by unfold rd1; rw [if_pos k1]
        have hle : (rdrStep 0 (upR (numR (b.data.toList.drop p) 18446744073709551615 21)) p e).2.1 ≤ b.size := by have := rd1_le (t := t) (e := e) hp; rw [hr1] at this; exact this
        have hc := fun (wx : World) (hx : Rdr wx w.heap.size b p e) => rNum w.heap.size b p e 18446744073709551615 wx hx hp hb (by decide)
        generalize (rdrStep 0 (upR (numR (b.data.toList.drop p) 18446744073709551615 21)) p e) = S3 at hr1 hle hc
        obtain ⟨v, q, f⟩ := S3
        rw [hr1] at HST
        have HC := Lib.hid hc
        have hkeep : ∀ w2 : World, wr.drew.grownBy w2 (some w.heap.size) → w2.cell? ⟨bb, off + k * 3 + 1, none⟩ = some (.int .u64 (t.n : Int)) := fun w2 hg => (World.cell?_of_block (hg.block bb (Nat.lt_of_lt_of_le hbb hBr.size) (by intro h; injection h; omega))).trans q1
        have HK := Lib.hid hkeep
        clear hr1 hc hkeep k1
        cases hv : (v == (t.n : Int)) with
        | false =>
          rw [hv] at HST
          go_wp2_with fail
          refine wp_region_held_drew (S := fun w' => w'.cell? ⟨bb, off + k * 3 + 1, none⟩ = some (.int .u64 (t.n : Int))) (by kernel_rfl) q1 (fun hS => ?_)
          refine wpAnyH_take (i := 0) (v := ?_) rfl (by kernel_rfl) (by kernel_rfl) (by kernel_rfl) (fun _ _ _ h => h) (Or.inl ⟨by rfl, ?_⟩) hS ?_
          rotate_left
          · (intro wx hSx; (try dsimp only at hSx); go_simp; (try with_reducible rfl))
          simp only [Act.put, List.setIfInBounds_toArray, List.set_cons_zero, List.set_cons_succ]
          refine wpAnyH_take (i := 2) (v := ?_) rfl (by kernel_rfl) (by kernel_rfl) (by kernel_rfl) (fun _ _ _ h => h) (Or.inl ⟨by rfl, ?_⟩) hS ?_
          rotate_left
          · (intro wx hSx; (try dsimp only at hSx); go_simp; (try with_reducible rfl))
          simp only [Act.put, List.setIfInBounds_toArray, List.set_cons_zero, List.set_cons_succ]
          refine wpAnyH_take (i := 3) (v := ?_) rfl (by kernel_rfl) (by kernel_rfl) (by kernel_rfl) (fun _ _ _ h => h) (Or.inl ⟨by rfl, ?_⟩) hS ?_
          rotate_left
          · (intro wx hSx; (try dsimp only at hSx); go_simp; (try with_reducible rfl))
          simp only [Act.put, List.setIfInBounds_toArray, List.set_cons_zero, List.set_cons_succ]
          refine wpAnyH_take (i := 4) (v := ?_) rfl (by kernel_rfl) (by kernel_rfl) (by kernel_rfl) (fun _ _ _ h => h) (Or.inl ⟨by rfl, ?_⟩) hS ?_
          rotate_left
          · (intro wx hSx; (try dsimp only at hSx); go_simp; (try with_reducible rfl))
          simp only [Act.put, List.setIfInBounds_toArray, List.set_cons_zero, List.set_cons_succ]
          refine wpAnyH_take (i := 5) (v := ?_) rfl (by kernel_rfl) (by kernel_rfl) (by kernel_rfl) (fun _ _ _ h => h) (Or.inl ⟨by rfl, ?_⟩) hS ?_
          rotate_left
          · (intro wx hSx; (try dsimp only at hSx); go_simp; (try with_reducible rfl))
          simp only [Act.put, List.setIfInBounds_toArray, List.set_cons_zero, List.set_cons_succ]
          refine wpAnyH_take (i := 6) (v := ?_) rfl (by kernel_rfl) (by kernel_rfl) (by kernel_rfl) (fun _ _ _ h => h) (Or.inl ⟨by rfl, ?_⟩) hS ?_
          rotate_left
          · (intro wx hSx; (try dsimp only at hSx); go_simp; (try with_reducible rfl))
          simp only [Act.put, List.setIfInBounds_toArray, List.set_cons_zero, List.set_cons_succ]
          refine wpAnyH_ready (rs := [1]) (by kernel_rfl) (by simp) ?_
          refine AllReadyH.cons rfl (fun K hK => ?_) AllReadyH.nil
          go_simp
          refine (HC.out _ hRr.drew).mono ?_
          rintro x w2 ⟨rfl, hR2, hg2⟩
          have hk2 := HK.out _ hg2
          simp only []
          refine hK.out _ _ hk2 (fun _ => ?_)
          clear hK K
          refine wpAnyH_ready (rs := [7]) (by kernel_rfl) (by simp) ?_
          refine AllReadyH.cons rfl (fun K hK => ?_) AllReadyH.nil
          go_simp
          refine hK.out _ _ hk2 (fun _ => ?_)
          clear hK K
          refine wpAnyH_ready (rs := [8]) (by kernel_rfl) (by simp) ?_
          refine AllReadyH.cons rfl (fun K hK => ?_) AllReadyH.nil
          go_simp
          refine hK.out _ _ hk2 (fun _ => ?_)
          clear hK K
          refine wpAnyH_ready (rs := [9]) (by kernel_rfl) (by simp) ?_
          refine AllReadyH.cons rfl (fun K hK => ?_) AllReadyH.nil
          go_simp
          refine hK.out _ _ hk2 (fun _ => ?_)
          clear hK K
          refine wpAnyH_ready (rs := [10]) (by kernel_rfl) (by simp) ?_
          refine AllReadyH.cons rfl (fun K hK => ?_) AllReadyH.nil
          go_simp
          refine hK.out _ _ hk2 (fun _ => ?_)
          clear hK K
          refine wpAnyH_ready (rs := [11]) (by kernel_rfl) (by simp) ?_
          refine AllReadyH.cons rfl (fun K hK => ?_) AllReadyH.nil
          go_simp
          refine hK.out _ _ hk2 (fun _ => ?_)
          clear hK K
          refine wpAnyH_done (by kernel_rfl) ?_ _
          go_wp2
          exact ⟨⟨k + 1, q, f, false, by omega, by go_num, rfl, hle, hR2, hBr.drew.trans (below_of_only hg2 (Nat.le_refl _) hBr.size), HST⟩, by simp [intOf]; omega⟩
        | true =>
          rw [hv] at HST
          go_wp2_with fail
          go_region_held3 (fun w' => w'.cell? ⟨bb, off + k * 3 + 1, none⟩ = some (.int .u64 (t.n : Int))) ((first | exact q1 | exact HK.out _ (by assumption)))
            (first | (go_at_call 18; refine (HC.out _ hRr.drew).mono ?_; rintro x w2 ⟨rfl, hR2, hg2⟩))
          go_wp2
          go_roundw
          case rel => exact ⟨k + 1, q, f, o, by omega, by go_num, rfl, hle, hR2, hBr.drew.trans (below_of_only hg2 (Nat.le_refl _) hBr.size), HST⟩
          case measure => simp [intOf]; omega
      · by_cases k2 : t.k = 2
        · rw [k2] at q0
          have hr1 : rd1 b t p e = ((rdrStep 0 (bitsR (b.data.toList.drop p)) p e).1 == (t.n : Int), (rdrStep 0 (bitsR (b.data.toList.drop p)) p e).2) := by unfold rd1; rw [if_neg k1, if_pos k2]
          have hle : (rdrStep 0 (bitsR (b.data.toList.drop p)) p e).2.1 ≤ b.size := by have := rd1_le (t := t) (e := e) hp; rw [hr1] at this; exact this
          have hc := fun (wx : World) (hx : Rdr wx w.heap.size b p e) => rBits w.heap.size b p e wx hx hp hb
          generalize (rdrStep 0 (bitsR (b.data.toList.drop p)) p e) = S3 at hr1 hle hc
          obtain ⟨v, q, f⟩ := S3
          rw [hr1] at HST
          have HC := Lib.hid hc
          have hkeep : ∀ w2 : World, wr.drew.grownBy w2 (some w.heap.size) → w2.cell? ⟨bb, off + k * 3 + 1, none⟩ = some (.int .u64 (t.n : Int)) := fun w2 hg => (World.cell?_of_block (hg.block bb (Nat.lt_of_lt_of_le hbb hBr.size) (by intro h; injection h; omega))).trans q1
          have HK := Lib.hid hkeep
          clear hr1 hc hkeep k1 k2
          cases hv : (v == (t.n : Int)) with
          | false =>
            rw [hv] at HST
            go_wp2_with fail
            refine wp_region_held_drew (S := fun w' => w'.cell? ⟨bb, off + k * 3 + 1, none⟩ = some (.int .u64 (t.n : Int))) (by kernel_rfl) q1 (fun hS => ?_)
            refine wpAnyH_take (i := 0) (v := ?_) rfl (by kernel_rfl) (by kernel_rfl) (by kernel_rfl) (fun _ _ _ h => h) (Or.inl ⟨by rfl, ?_⟩) hS ?_
            rotate_left
            · (intro wx hSx; (try dsimp only at hSx); go_simp; (try with_reducible rfl))
            simp only [Act.put, List.setIfInBounds_toArray, List.set_cons_zero, List.set_cons_succ]
            refine wpAnyH_take (i := 2) (v := ?_) rfl (by kernel_rfl) (by kernel_rfl) (by kernel_rfl) (fun _ _ _ h => h) (Or.inl ⟨by rfl, ?_⟩) hS ?_
            rotate_left
            · (intro wx hSx; (try dsimp only at hSx); go_simp; (try with_reducible rfl))
            simp only [Act.put, List.setIfInBounds_toArray, List.set_cons_zero, List.set_cons_succ]
            refine wpAnyH_take (i := 3) (v := ?_) rfl (by kernel_rfl) (by kernel_rfl) (by kernel_rfl) (fun _ _ _ h => h) (Or.inl ⟨by rfl, ?_⟩) hS ?_
            rotate_left
            · (intro wx hSx; (try dsimp only at hSx); go_simp; (try with_reducible rfl))
            simp only [Act.put, List.setIfInBounds_toArray, List.set_cons_zero, List.set_cons_succ]
            refine wpAnyH_take (i := 4) (v := ?_) rfl (by kernel_rfl) (by kernel_rfl) (by kernel_rfl) (fun _ _ _ h => h) (Or.inl ⟨by rfl, ?_⟩) hS ?_
            rotate_left
            · (intro wx hSx; (try dsimp only at hSx); go_simp; (try with_reducible rfl))
            simp only [Act.put, List.setIfInBounds_toArray, List.set_cons_zero, List.set_cons_succ]
            refine wpAnyH_take (i := 5) (v := ?_) rfl (by kernel_rfl) (by kernel_rfl) (by kernel_rfl) (fun _ _ _ h => h) (Or.inl ⟨by rfl, ?_⟩) hS ?_
            rotate_left
            · (intro wx hSx; (try dsimp only at hSx); go_simp; (try with_reducible rfl))
            simp only [Act.put, List.setIfInBounds_toArray, List.set_cons_zero, List.set_cons_succ]
            refine wpAnyH_take (i := 6) (v := ?_) rfl (by kernel_rfl) (by kernel_rfl) (by kernel_rfl) (fun _ _ _ h => h) (Or.inl ⟨by rfl, ?_⟩) hS ?_
            rotate_left
            · (intro wx hSx; (try dsimp only at hSx); go_simp; (try with_reducible rfl))
            simp only [Act.put, List.setIfInBounds_toArray, List.set_cons_zero, List.set_cons_succ]
            refine wpAnyH_ready (rs := [1]) (by kernel_rfl) (by simp) ?_
            refine AllReadyH.cons rfl (fun K hK => ?_) AllReadyH.nil
            go_simp
            refine (HC.out _ hRr.drew).mono ?_
            rintro x w2 ⟨rfl, hR2, hg2⟩
            have hk2 := HK.out _ hg2
            simp only []
            refine hK.out _ _ hk2 (fun _ => ?_)
            clear hK K
            refine wpAnyH_ready (rs := [7]) (by kernel_rfl) (by simp) ?_
            refine AllReadyH.cons rfl (fun K hK => ?_) AllReadyH.nil
            go_simp
            refine hK.out _ _ hk2 (fun _ => ?_)
            clear hK K
            refine wpAnyH_ready (rs := [8]) (by kernel_rfl) (by simp) ?_
            refine AllReadyH.cons rfl (fun K hK => ?_) AllReadyH.nil
            go_simp
            refine hK.out _ _ hk2 (fun _ => ?_)
            clear hK K
            refine wpAnyH_ready (rs := [9]) (by kernel_rfl) (by simp) ?_
            refine AllReadyH.cons rfl (fun K hK => ?_) AllReadyH.nil
            go_simp
            refine hK.out _ _ hk2 (fun _ => ?_)
            clear hK K
            refine wpAnyH_ready (rs := [10]) (by kernel_rfl) (by simp) ?_
            refine AllReadyH.cons rfl (fun K hK => ?_) AllReadyH.nil
            go_simp
            refine hK.out _ _ hk2 (fun _ => ?_)
            clear hK K
            refine wpAnyH_ready (rs := [11]) (by kernel_rfl) (by simp) ?_
            refine AllReadyH.cons rfl (fun K hK => ?_) AllReadyH.nil
            go_simp
            refine hK.out _ _ hk2 (fun _ => ?_)
            clear hK K
            refine wpAnyH_done (by kernel_rfl) ?_ _
            go_wp2
            exact ⟨⟨k + 1, q, f, false, by omega, by go_num, rfl, hle, hR2, hBr.drew.trans (below_of_only hg2 (Nat.le_refl _) hBr.size), HST⟩, by simp [intOf]; omega⟩
          | true =>
            rw [hv] at HST
            go_wp2_with fail
            go_region_held3 (fun w' => w'.cell? ⟨bb, off + k * 3 + 1, none⟩ = some (.int .u64 (t.n : Int))) ((first | exact q1 | exact HK.out _ (by assumption)))
              (first | (go_at_call 20; refine (HC.out _ hRr.drew).mono ?_; rintro x w2 ⟨rfl, hR2, hg2⟩))
            go_wp2
            go_roundw
            case rel => exact ⟨k + 1, q, f, o, by omega, by go_num, rfl, hle, hR2, hBr.drew.trans (below_of_only hg2 (Nat.le_refl _) hBr.size), HST⟩
            case measure => simp [intOf]; omega
        · have t1 : (t.k == 1) = false := by rw [beq_eq_false_iff_ne]; exact k1
          have t2 : (t.k == 2) = false := by rw [beq_eq_false_iff_ne]; exact k2
          have hsz : (str t.s).size = t.s.length := str_size t.s
          have hsl : t.s.length ≤ 1048576 := hsmall
          have hr1 : rd1 b t p e = ((rdrStep ⟨#[]⟩ (textR (b.data.toList.drop p) t.s.length) p e).1.toList == (str t.s).toList, (rdrStep ⟨#[]⟩ (textR (b.data.toList.drop p) t.s.length) p e).2) := by unfold rd1; rw [if_neg k1, if_neg k2]
          have hle : (rdrStep ⟨#[]⟩ (textR (b.data.toList.drop p) t.s.length) p e).2.1 ≤ b.size := by have := rd1_le (t := t) (e := e) hp; rw [hr1] at this; exact this
          have hc := fun (wx : World) (hx : Rdr wx w.heap.size b p e) => (by have h := rText w.heap.size b p e t.s.length wx hx hp hb (by omega); rwa [Int.toNat_natCast] at h)
          generalize (rdrStep ⟨#[]⟩ (textR (b.data.toList.drop p) t.s.length) p e) = S3 at hr1 hle hc
          obtain ⟨v, q, f⟩ := S3
          rw [hr1] at HST
          have HC := Lib.hid hc
          have hkeep : ∀ w2 : World, wr.drew.grownBy w2 (some w.heap.size) → w2.cell? ⟨bb, off + k * 3 + 2, none⟩ = some (.string (str t.s)) := fun w2 hg => (World.cell?_of_block (hg.block bb (Nat.lt_of_lt_of_le hbb hBr.size) (by intro h; injection h; omega))).trans q2
          have HK := Lib.hid hkeep
          clear hr1 hc hkeep k1 k2
          cases hv : (v.toList == (str t.s).toList) with
          | false =>
            rw [hv] at HST
            go_wp2_with fail
            refine wp_region_held_drew (S := fun w' => w'.cell? ⟨bb, off + k * 3 + 2, none⟩ = some (.string (str t.s))) (by kernel_rfl) q2 (fun hS => ?_)
            refine wpAnyH_take (i := 0) (v := ?_) rfl (by kernel_rfl) (by kernel_rfl) (by kernel_rfl) (fun _ _ _ h => h) (Or.inl ⟨by rfl, ?_⟩) hS ?_
            rotate_left
            · (intro wx hSx; (try dsimp only at hSx); go_simp; (try with_reducible rfl))
            simp only [Act.put, List.setIfInBounds_toArray, List.set_cons_zero, List.set_cons_succ]
            refine wpAnyH_take (i := 1) (v := ?_) rfl (by kernel_rfl) (by kernel_rfl) (by kernel_rfl) (fun _ _ _ h => h) (Or.inl ⟨by rfl, ?_⟩) hS ?_
            rotate_left
            · (intro wx hSx; (try dsimp only at hSx); go_simp; (try with_reducible rfl))
            simp only [Act.put, List.setIfInBounds_toArray, List.set_cons_zero, List.set_cons_succ]
            refine wpAnyH_take (i := 2) (v := ?_) rfl (by kernel_rfl) (by kernel_rfl) (by kernel_rfl) (fun _ _ _ h => h) (Or.inl ⟨by rfl, ?_⟩) hS ?_
            rotate_left
            · (intro wx hSx; (try dsimp only at hSx); go_simp; (try with_reducible rfl))
            simp only [Act.put, List.setIfInBounds_toArray, List.set_cons_zero, List.set_cons_succ]
            refine wpAnyH_take (i := 3) (v := ?_) rfl (by kernel_rfl) (by kernel_rfl) (by kernel_rfl) (fun _ _ _ h => h) (Or.inl ⟨by rfl, ?_⟩) hS ?_
            rotate_left
            · (intro wx hSx; (try dsimp only at hSx); go_simp; (try with_reducible rfl))
            simp only [Act.put, List.setIfInBounds_toArray, List.set_cons_zero, List.set_cons_succ]
            refine wpAnyH_take (i := 4) (v := ?_) rfl (by kernel_rfl) (by kernel_rfl) (by kernel_rfl) (fun _ _ _ h => h) (Or.inl ⟨by rfl, ?_⟩) hS ?_
            rotate_left
            · (intro wx hSx; (try dsimp only at hSx); go_simp; (try with_reducible rfl))
            simp only [Act.put, List.setIfInBounds_toArray, List.set_cons_zero, List.set_cons_succ]
            refine wpAnyH_take (i := 5) (v := ?_) rfl (by kernel_rfl) (by kernel_rfl) (by kernel_rfl) (fun _ _ _ h => h) (Or.inl ⟨by rfl, ?_⟩) hS ?_
            rotate_left
            · (intro wx hSx; (try dsimp only at hSx); go_simp; (try with_reducible rfl))
            simp only [Act.put, List.setIfInBounds_toArray, List.set_cons_zero, List.set_cons_succ]
            refine wpAnyH_take (i := 6) (v := ?_) rfl (by kernel_rfl) (by kernel_rfl) (by kernel_rfl) (fun _ _ _ h => h) (Or.inl ⟨by rfl, ?_⟩) hS ?_
            rotate_left
            · (intro wx hSx; (try dsimp only at hSx); go_simp; (try with_reducible rfl))
            simp only [Act.put, List.setIfInBounds_toArray, List.set_cons_zero, List.set_cons_succ]
            refine wpAnyH_take (i := 8) (v := ?_) rfl (by kernel_rfl) (by kernel_rfl) (by kernel_rfl) (fun _ _ _ h => h) (Or.inl ⟨by rfl, ?_⟩) hS ?_
            rotate_left
            · (intro wx hSx; (try dsimp only at hSx); go_simp; (try with_reducible rfl))
            simp only [Act.put, List.setIfInBounds_toArray, List.set_cons_zero, List.set_cons_succ]
            refine wpAnyH_take (i := 9) (v := ?_) rfl (by kernel_rfl) (by kernel_rfl) (by kernel_rfl) (fun _ _ _ h => h) (Or.inl ⟨by rfl, ?_⟩) hS ?_
            rotate_left
            · (intro wx hSx; (try dsimp only at hSx); go_simp; (try with_reducible rfl))
            simp only [Act.put, List.setIfInBounds_toArray, List.set_cons_zero, List.set_cons_succ]
            refine wpAnyH_take (i := 10) (v := ?_) rfl (by kernel_rfl) (by kernel_rfl) (by kernel_rfl) (fun _ _ _ h => h) (Or.inl ⟨by rfl, ?_⟩) hS ?_
            rotate_left
            · (intro wx hSx; (try dsimp only at hSx); go_simp; (try with_reducible rfl))
            simp only [Act.put, List.setIfInBounds_toArray, List.set_cons_zero, List.set_cons_succ]
            refine wpAnyH_take (i := 11) (v := ?_) rfl (by kernel_rfl) (by kernel_rfl) (by kernel_rfl) (fun _ _ _ h => h) (Or.inl ⟨by rfl, ?_⟩) hS ?_
            rotate_left
            · (intro wx hSx; (try dsimp only at hSx); go_simp; (try with_reducible rfl))
            simp only [Act.put, List.setIfInBounds_toArray, List.set_cons_zero, List.set_cons_succ]
            refine wpAnyH_take (i := 12) (v := ?_) rfl (by kernel_rfl) (by kernel_rfl) (by kernel_rfl) (fun _ _ _ h => h) (Or.inl ⟨by rfl, ?_⟩) hS ?_
            rotate_left
            · (intro wx hSx; (try dsimp only at hSx); go_simp; (try with_reducible rfl))
            simp only [Act.put, List.setIfInBounds_toArray, List.set_cons_zero, List.set_cons_succ]
            refine wpAnyH_ready (rs := [7]) (by kernel_rfl) (by simp) ?_
            refine AllReadyH.cons rfl (fun K hK => ?_) AllReadyH.nil
            go_simp
            refine (HC.out _ hRr.drew).mono ?_
            rintro x w2 ⟨rfl, hR2, hg2⟩
            have hk2 := HK.out _ hg2
            simp only []
            refine hK.out _ _ hk2 (fun _ => ?_)
            clear hK K
            refine wpAnyH_ready (rs := [13]) (by kernel_rfl) (by simp) ?_
            refine AllReadyH.cons rfl (fun K hK => ?_) AllReadyH.nil
            go_simp
            refine hK.out _ _ hk2 (fun _ => ?_)
            clear hK K
            refine wpAnyH_ready (rs := [14]) (by kernel_rfl) (by simp) ?_
            refine AllReadyH.cons rfl (fun K hK => ?_) AllReadyH.nil
            go_simp
            refine hK.out _ _ hk2 (fun _ => ?_)
            clear hK K
            refine wpAnyH_ready (rs := [15]) (by kernel_rfl) (by simp) ?_
            refine AllReadyH.cons rfl (fun K hK => ?_) AllReadyH.nil
            go_simp
            refine hK.out _ _ hk2 (fun _ => ?_)
            clear hK K
            refine wpAnyH_ready (rs := [16]) (by kernel_rfl) (by simp) ?_
            refine AllReadyH.cons rfl (fun K hK => ?_) AllReadyH.nil
            go_simp
            refine hK.out _ _ hk2 (fun _ => ?_)
            clear hK K
            refine wpAnyH_ready (rs := [17]) (by kernel_rfl) (by simp) ?_
            refine AllReadyH.cons rfl (fun K hK => ?_) AllReadyH.nil
            go_simp
            refine hK.out _ _ hk2 (fun _ => ?_)
            clear hK K
            refine wpAnyH_done (by kernel_rfl) ?_ _
            go_wp2
            exact ⟨⟨k + 1, q, f, false, by omega, by go_num, rfl, hle, hR2, hBr.drew.trans (below_of_only hg2 (Nat.le_refl _) hBr.size), HST⟩, by simp [intOf]; omega⟩
          | true =>
            rw [hv] at HST
            go_wp2_with fail
            go_region_held3 (fun w' => w'.cell? ⟨bb, off + k * 3 + 2, none⟩ = some (.string (str t.s))) ((first | exact q2 | exact HK.out _ (by assumption)))
              (first | (go_at_call 21; refine (HC.out _ hRr.drew).mono ?_; rintro x w2 ⟨rfl, hR2, hg2⟩))
            go_wp2
            go_roundw
            case rel => exact ⟨k + 1, q, f, o, by omega, by go_num, rfl, hle, hR2, hBr.drew.trans (below_of_only hg2 (Nat.le_refl _) hBr.size), HST⟩
            case measure => simp [intOf]; omega
    · have hkn : k = n := by omega
      have hfin : R = (p, e, o) := by
        have h := HRR.out
        rw [List.drop_of_length_le (by have := HL.out; omega)] at h
        exact h
      have HF := Lib.hid hfin
      clear hfin hkn HRR
      go_wp2_with fail
      refine (end_any _ _ _ _ _ hRr).mono ?_
      rintro x w2 ⟨rfl, m, rfl⟩
      go_wp2
      go_ret2
      rw [HF.out]
      exact ⟨rfl, below_drewN hBr m⟩
end Go.Proofs.Ytefablceddbolaa
