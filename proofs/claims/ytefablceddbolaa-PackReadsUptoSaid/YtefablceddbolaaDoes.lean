/- gafferlaw02.does: one call to the reader and to the reference's. -/
import Derived.Test.YtefablceddbolaaRefBits
import Derived.Test.YtefablceddbolaaAsks
import Derived.Deep.RegionHeld3
namespace Go.Proofs.Ytefablceddbolaa
open Go.RowKit

/-- a reader's block and four cells of another block may have turned -/
def Both (w w' : World) (g h off : Nat) : Prop :=
  Turns [g, h] w w' ∧ ∀ cur E, w.heap[h]? = some (.cells cur E (0, 0)) → ∃ cur', w'.heap[h]? = some (.cells cur' E (0, 0)) ∧ cur'.size = cur.size ∧ ∀ j : Nat, j < off ∨ off + 4 ≤ j → cur'[j]? = cur[j]?

section
variable {w w' w'' : World} {g h off : Nat} {b : ByteArray} {p : Nat} {e : Int}
theorem both_refl (w : World) (g h off : Nat) : Both w w g h off := ⟨Turns.refl _ _, fun cur _ hh => ⟨cur, hh, rfl, fun _ _ => rfl⟩⟩
theorem both_trans (h1 : Both w w' g h off) (k : Both w' w'' g h off) : Both w w'' g h off :=
  ⟨h1.1.trans k.1, fun cur E hh => by
    obtain ⟨c1, h1, s1, e1⟩ := h1.2 cur E hh
    obtain ⟨c2, h2, s2, e2⟩ := k.2 c1 E h1
    exact ⟨c2, h2, s2.trans s1, fun j hj => (e2 j hj).trans (e1 j hj)⟩⟩
theorem both_of_only4 (h1 : Only4 w w' h off) : Both w w' g h off := ⟨(Turns.of_only h1.1).mono (fun x hx => .inl (by simp at hx; simp [hx])), h1.2⟩
theorem both_of_only (h1 : w.grownBy w' (some g)) (hne : g ≠ h) : Both w w' g h off := ⟨(Turns.of_only h1).mono (fun x hx => .inl (by simp at hx; simp [hx])), fun cur _ hh =>
  ⟨cur, (h1.block h (lt_of_block hh) (by intro he; injection he with he; exact hne he.symm)).trans hh, rfl, fun _ _ => rfl⟩⟩
theorem both_drewN (h1 : Both w w' g h off) (n : Nat) : Both w (w'.drewN n) g h off := ⟨h1.1.drewN n, h1.2⟩
theorem both_alloc (w : World) (o : Obj) : Both w (w.alloc o) g h off := ⟨(Turns.refl _ w).alloc o, fun cur _ hh => ⟨cur, (Below.heap_alloc w o h (lt_of_block hh)).trans hh, rfl, fun _ _ => rfl⟩⟩
theorem Ref.block_eq {a : Int} (h1 : Ref w h off b p e a) (hb : w'.heap[h]? = w.heap[h]?) : Ref w' h off b p e a := by
  obtain ⟨cur, E, hh, r⟩ := h1
  exact ⟨cur, E, hb.trans hh, r⟩
theorem Ref.far {a : Int} (h1 : Ref w h off b p e a) (hg : w.grownBy w' (some g)) (hne : g ≠ h) : Ref w' h off b p e a :=
  h1.block_eq (hg.block h h1.lt (by intro he; injection he with he; exact hne he.symm))
theorem Ref.alloc {a : Int} (h1 : Ref w h off b p e a) (o : Obj) : Ref (w.alloc o) h off b p e a := h1.block_eq (Below.heap_alloc w o h h1.lt)
theorem Rdr.far4 (h1 : Rdr w g b p e) (hg : Only4 w w' h off) (hne : g ≠ h) : Rdr w' g b p e := h1.grown hg.1 (by intro he; injection he with he; exact hne he)
theorem cell_far {x : Addr} {v : Value} (hg : w.grownBy w' (some g)) (hv : w.cell? x = some v) (hne : x.block ≠ g) : w'.cell? x = some v := by
  have hb := hg.block x.block (World.block_lt_of_cell? w x hv) (by intro he; injection he with he; exact hne he)
  unfold World.cell? at hv ⊢
  rw [hb]
  exact hv
end

def DoesPost (g h off : Nat) (b : ByteArray) (w : World) (x : Ending) (w' : World) : Prop :=
  x = .returned (.bool true) ∧ ∃ (q : Nat) (f : Int), q ≤ b.size ∧ Rdr w' g b q f ∧ Ref w' h off b q f (fa f q) ∧ Both w w' g h off

set_option maxHeartbeats 4000000 in
theorem does_any (g h off : Nat) (b : ByteArray) (p : Nat) (e : Int) (kd most : Int) (w : World) (hR : Rdr w g b p e) (hF : Ref w h off b p e (fa e p)) (hne : g ≠ h) (hp : p ≤ b.size) (hb : b.size < 4294967296) (hm : -9223372036854775808 ≤ most ∧ most ≤ 9223372036854775807) :
    Calls Try.prog 28 #[.pointer (some ⟨g, 0, none⟩), .pointer (some ⟨h, off, none⟩), .agg #[.int .i64 kd, .int .i64 most]] w (DoesPost g h off b w) := by
  have hlt := hR.lt
  have hlt2 := hF.lt
  obtain ⟨W, hW⟩ : ∃ W, W = w.alloc (.cells #[.int .i64 kd, .int .i64 most] 51) := ⟨_, rfl⟩
  have hRW : Rdr W g b p e := by rw [hW]; exact hR.alloc _
  have hFW : Ref W h off b p e (fa e p) := by rw [hW]; exact hF.alloc _
  have hBW : Both w W g h off := by rw [hW]; exact both_alloc _ _
  have hc1 : W.cell? ⟨w.heap.size, 1, none⟩ = some (.int .i64 most) := by rw [hW]; exact (World.cell?_alloc_mark w _ _ (0, 0) 1).trans rfl
  have hsW : w.heap.size < W.heap.size := by rw [hW]; simp
  have HW := Lib.hid hW
  clear hW
  have hu : IntKind.u64.wrap most = ((most % 18446744073709551616).toNat : Int) := by
    rw [show IntKind.u64.wrap most = most % 18446744073709551616 from by simp [IntKind.wrap, IntKind.bits, IntKind.signed]]
    omega
  have HU := Lib.hid hu
  clear hu
  have HK : Hid (∀ wx wy, (wx.grownBy wy (some g) ∨ Only4 wx wy h off) → wx.cell? ⟨w.heap.size, 1, none⟩ = some (.int .i64 most) → wy.cell? ⟨w.heap.size, 1, none⟩ = some (.int .i64 most)) := Lib.hid fun wx wy hg hv => by
    rcases hg with hg | hg
    · exact cell_far hg hv (by show w.heap.size ≠ g; omega)
    · exact cell_far hg.1 hv (by show w.heap.size ≠ h; omega)
  have hBd : Both w W.drew g h off := ⟨hBW.1.drew, hBW.2⟩
  have hRd : Rdr W.drew g b p e := hRW
  have hFd : Ref W.drew h off b p e (fa e p) := hFW
  have hcd : W.drew.cell? ⟨w.heap.size, 1, none⟩ = some (.int .i64 most) := hc1
  have FA : Hid (∀ (wa wb : World) q f, q ≤ b.size → Rdr wa g b q f → W.drew.grownBy wa (some g) → Ref wb h off b q f (fa f q) → Only4 wa wb h off → DoesPost g h off b w (.returned (.bool true)) wb) := Lib.hid fun wa wb q f hq h1 h2 h3 h4 =>
    ⟨rfl, q, f, hq, h1.far4 h4 hne, h3, both_trans hBd (both_trans (both_of_only h2 hne) (both_of_only4 h4))⟩
  have FB : Hid (∀ (wb wa : World) q f, q ≤ b.size → Ref wb h off b q f (fa f q) → Only4 W.drew wb h off → Rdr wa g b q f → wb.grownBy wa (some g) → DoesPost g h off b w (.returned (.bool true)) wa) := Lib.hid fun wb wa q f hq h1 h2 h3 h4 =>
    ⟨rfl, q, f, hq, h3, h1.far h4 hne, both_trans hBd (both_trans (both_of_only4 h2) (both_of_only h4 hne))⟩
  have KA : Hid (∀ wx wy, wx.grownBy wy (some g) → Ref wx h off b p e (fa e p) → Ref wy h off b p e (fa e p)) := Lib.hid fun wx wy hg hr => hr.far hg hne
  have KB : Hid (∀ wx wy, Only4 wx wy h off → Rdr wx g b p e → Rdr wy g b p e) := Lib.hid fun wx wy hg hr => hr.far4 hg hne
  by_cases k1 : kd = 1
  · subst k1
    obtain ⟨M, hM⟩ : ∃ M, M = (most % 18446744073709551616).toNat := ⟨_, rfl⟩
    have hMl : M < 18446744073709551616 := by omega
    rw [← hM] at HU
    have hp1 := fun wx (hr : Rdr wx g b p e) => rNum g b p e M wx hr hp hb hMl
    have hp2 := fun wx (hr : Ref wx h off b p e (fa e p)) => fNum h off b p e M wx hr hp hb hMl
    have hle := rdrStep_le (zero := (0 : Int)) (e := e) hp (fun v k h => num_le (most := M) (over := 21) hp h)
    obtain ⟨s, hs⟩ : ∃ s, s = rdrStep 0 (upR (numR (b.data.toList.drop p) M 21)) p e := ⟨_, rfl⟩
    rw [← hs] at hp1 hp2 hle
    clear hs hM
    have H1 := Lib.hid hp1
    have H2 := Lib.hid hp2
    clear hp1 hp2
    go_enter Try.func28, Try.ntmps28
    go_wp2_with fail
    rw [← HW.out]
    clear hRW hFW hc1
    go_region_held3 (fun w' => w'.cell? ⟨w.heap.size, 1, none⟩ = some (.int .i64 most)) ((first | exact hcd | assumption | exact HK.out _ _ (.inl (by assumption)) (by assumption) | exact HK.out _ _ (.inr (by assumption)) (by assumption)))
      (first
        | (go_at_call 18; (try rw [HU.out]); (first | refine (H1.out _ (by assumption)).mono ?_ | refine (H1.out _ (KB.out _ _ (by assumption) (by assumption))).mono ?_); rintro x wa ⟨rfl, hRa, hga⟩)
        | (go_at_call 43; (try rw [HU.out]); (first | refine (H2.out _ (by assumption)).mono ?_ | refine (H2.out _ (KA.out _ _ (by assumption) (by assumption))).mono ?_); rintro x wb ⟨rfl, hRb, hgb⟩))
    all_goals
      go_wp2
      go_ret
      first
        | exact FA.out _ _ _ _ hle hRa hga hRb hgb
        | exact FB.out _ _ _ _ hle hRb hgb hRa hga
  · by_cases k2 : kd = 2
    · subst k2
      have hp1 := fun wx (hr : Rdr wx g b p e) => rList g b p e most wx hr hp hb hm.2
      have hp2 := fun wx (hr : Ref wx h off b p e (fa e p)) => fList h off b p e most wx hr hp hb hm.2
      have hle := rdrStep_le (zero := (0 : Int)) (e := e) hp (fun v k h => num_le (most := most.toNat) (over := 23) hp h)
      obtain ⟨s, hs⟩ : ∃ s, s = rdrStep 0 (upR (numR (b.data.toList.drop p) most.toNat 23)) p e := ⟨_, rfl⟩
      rw [← hs] at hp1 hp2 hle
      clear hs
      have H1 := Lib.hid hp1
      have H2 := Lib.hid hp2
      clear hp1 hp2
      go_enter Try.func28, Try.ntmps28
      go_wp2_with fail
      rw [← HW.out]
      clear hRW hFW hc1
      go_region_held3 (fun w' => w'.cell? ⟨w.heap.size, 1, none⟩ = some (.int .i64 most)) ((first | exact hcd | assumption | exact HK.out _ _ (.inl (by assumption)) (by assumption) | exact HK.out _ _ (.inr (by assumption)) (by assumption)))
        (first
          | (go_at_call 19; (try rw [HU.out]); (first | refine (H1.out _ (by assumption)).mono ?_ | refine (H1.out _ (KB.out _ _ (by assumption) (by assumption))).mono ?_); rintro x wa ⟨rfl, hRa, hga⟩)
          | (go_at_call 44; (try rw [HU.out]); (first | refine (H2.out _ (by assumption)).mono ?_ | refine (H2.out _ (KA.out _ _ (by assumption) (by assumption))).mono ?_); rintro x wb ⟨rfl, hRb, hgb⟩))
      all_goals
        go_wp2
        go_ret
        first
          | exact FA.out _ _ _ _ hle hRa hga hRb hgb
          | exact FB.out _ _ _ _ hle hRb hgb hRa hga
    · by_cases k3 : kd = 3
      · subst k3
        have hp1 := fun wx (hr : Rdr wx g b p e) => rText g b p e most wx hr hp hb hm.2
        have hp2 := fun wx (hr : Ref wx h off b p e (fa e p)) => fText h off b p e most wx hr hp hb hm.2
        have hle := rdrStep_le (zero := (⟨#[]⟩ : ByteArray)) (e := e) hp (fun v k h => text_le (most := most.toNat) hp h)
        obtain ⟨s, hs⟩ : ∃ s, s = rdrStep ⟨#[]⟩ (textR (b.data.toList.drop p) most.toNat) p e := ⟨_, rfl⟩
        rw [← hs] at hp1 hp2 hle
        clear hs
        have H1 := Lib.hid hp1
        have H2 := Lib.hid hp2
        clear hp1 hp2
        go_enter Try.func28, Try.ntmps28
        go_wp2_with fail
        rw [← HW.out]
        clear hRW hFW hc1
        go_region_held3 (fun w' => w'.cell? ⟨w.heap.size, 1, none⟩ = some (.int .i64 most)) ((first | exact hcd | assumption | exact HK.out _ _ (.inl (by assumption)) (by assumption) | exact HK.out _ _ (.inr (by assumption)) (by assumption)))
          (first
            | (go_at_call 21; (try rw [HU.out]); (first | refine (H1.out _ (by assumption)).mono ?_ | refine (H1.out _ (KB.out _ _ (by assumption) (by assumption))).mono ?_); rintro x wa ⟨rfl, hRa, hga⟩)
            | (go_at_call 45; (try rw [HU.out]); (first | refine (H2.out _ (by assumption)).mono ?_ | refine (H2.out _ (KA.out _ _ (by assumption) (by assumption))).mono ?_); rintro x wb ⟨rfl, hRb, hgb⟩))
        all_goals
          go_wp2
          go_ret
          first
            | exact FA.out _ _ _ _ hle hRa hga hRb hgb
            | exact FB.out _ _ _ _ hle hRb hgb hRa hga
      · by_cases k4 : kd = 4
        · subst k4
          have hle := rdrStep_le (zero := (0 : Int)) (e := e) hp (fun v k h => bits_le hp h)
          have hp1 := rBits g b p e W hRW hp hb
          have hp2 := fun wx (hr : Ref wx h off b p e (fa e p)) => fBits h off b p e wx hr hp hb
          obtain ⟨s, hs⟩ : ∃ s, s = rdrStep 0 (bitsR (b.data.toList.drop p)) p e := ⟨_, rfl⟩
          rw [← hs] at hp1 hp2 hle
          clear hs
          have H1 := Lib.hid hp1
          have H2 := Lib.hid hp2
          clear hp1 hp2
          go_enter Try.func28, Try.ntmps28
          go_wp2_with fail
          rw [← HW.out]
          refine H1.out.mono ?_
          rintro x wa ⟨rfl, hRa, hga⟩
          go_wp2_with fail
          refine (H2.out _ (hFW.far hga hne)).mono ?_
          rintro x wb ⟨rfl, hRb, hgb⟩
          go_wp2
          go_ret
          refine ⟨congrArg (fun x => Ending.returned (Value.bool x)) (by first | rfl | (simp; done) | simpa using rfl), _, _, hle, hRa.far4 hgb hne, hRb, both_trans hBW (both_trans (both_of_only hga hne) (both_of_only4 hgb))⟩
        · have t1 : (kd == 1) = false := by rw [beq_eq_false_iff_ne]; exact k1
          have t2 : (kd == 2) = false := by rw [beq_eq_false_iff_ne]; exact k2
          have t3 : (kd == 3) = false := by rw [beq_eq_false_iff_ne]; exact k3
          have t4 : (kd == 4) = false := by rw [beq_eq_false_iff_ne]; exact k4
          go_enter Try.func28, Try.ntmps28
          go_wp2
          go_ret
          rw [← HW.out]
          exact ⟨rfl, p, e, hp, hRW, hFW, hBW⟩
end Go.Proofs.Ytefablceddbolaa
