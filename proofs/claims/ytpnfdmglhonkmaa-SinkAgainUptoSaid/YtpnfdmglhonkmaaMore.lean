/- The reader's small methods: Read, At, Left, Fault, End, Clone. -/
import Derived.Test.YtpnfdmglhonkmaaTake
import Derived.Test.YtpnfdmglhonkmaaFace
set_option maxRecDepth 100000
namespace Go.Proofs.Ytpnfdmglhonkmaa
open Go.RowKit

set_option maxHeartbeats 400000 in
theorem read_any (b : ByteArray) (w : World) :
    Calls Try.prog 21 #[.string b] w fun x w' => x = .returned (.pointer (some ⟨w.heap.size, 0, none⟩)) ∧ Rdr w' w.heap.size b 0 0 ∧ Below w.heap.size w w' ∧ w'.heap.size = w.heap.size + 1 := by
  go_enter Try.func21, Try.ntmps21
  go_wp2
  go_ret
  exact ⟨rfl, heap_alloc_new _ _, (Below.refl _ w).alloc (Nat.le_refl _) _, by simp⟩



set_option maxHeartbeats 400000 in
theorem fault_any (g : Nat) (b : ByteArray) (p : Nat) (e : Int) (w : World) (hR : Rdr w g b p e) :
    Calls Try.prog 45 #[.pointer (some ⟨g, 0, none⟩)] w fun x w' => x = .returned (.tuple #[.int .i64 e, .int .i64 (if e = 0 then 0 else (p : Int))]) ∧ ∃ n, w' = w.drewN n := by
  have r1 := hR.c1
  have r2 := hR.c2
  by_cases he : e = 0
  · subst he
    go_enter Try.func45, Try.ntmps45
    go_wp2
    go_ret2
    exact ⟨rfl, 0, rfl⟩
  · have hb2 : (e == 0) = false := by simpa using he
    rw [if_neg he]
    go_enter Try.func45, Try.ntmps45
    go_wp2
    go_quiet (fail)
    go_wp2
    go_ret2
    exact ⟨rfl, _, rfl⟩

/-- what End tells -/
def endE (b : ByteArray) (p : Nat) (e : Int) : Int := if e = 0 ∧ p < b.size then 24 else e
def endP (b : ByteArray) (p : Nat) (e : Int) : Int := if e = 0 ∧ ¬ p < b.size then 0 else (p : Int)

set_option maxHeartbeats 400000 in
theorem end_any (g : Nat) (b : ByteArray) (p : Nat) (e : Int) (w : World) (hR : Rdr w g b p e) :
    Calls Try.prog 24 #[.pointer (some ⟨g, 0, none⟩)] w fun x w' => x = .returned (.tuple #[.int .i64 (endE b p e), .int .i64 (endP b p e)]) ∧ ∃ n, w' = w.drewN n := by
  have r0 := hR.c0
  have r1 := hR.c1
  have r2 := hR.c2
  by_cases he : e = 0
  · subst he
    by_cases hlt : p < b.size
    · have hi : (p : Int) < b.size := by omega
      rw [show endE b p 0 = 24 from if_pos ⟨rfl, hlt⟩, show endP b p 0 = p from if_neg (by simp [hlt])]
      go_enter Try.func24, Try.ntmps24
      go_wp2
      go_quiet (fail)
      go_wp2
      go_quiet (fail)
      go_wp2
      go_ret2
      exact ⟨rfl, _, by first | rfl | (simp [World.drewN_drewN]; rfl)⟩
    · have hi : ¬ (p : Int) < b.size := by omega
      have hd : decide ((p : Int) < b.size) = false := by simpa using hlt
      rw [show endE b p 0 = 0 from if_neg (by simp [hlt]), show endP b p 0 = 0 from if_pos ⟨rfl, hlt⟩]
      go_enter Try.func24, Try.ntmps24
      go_wp2
      go_quiet (fail)
      go_wp2_with fail
      refine (fault_any g b p 0 _ (hR.drewN _)).mono ?_
      rintro x w1 ⟨rfl, n, rfl⟩
      go_wp2
      go_ret2
      exact ⟨rfl, _, by first | rfl | (simp [World.drewN_drewN]; rfl)⟩
  · have hb2 : (e == 0) = false := by simpa using he
    rw [show endE b p e = e from if_neg (by simp [he]), show endP b p e = p from if_neg (by simp [he])]
    go_enter Try.func24, Try.ntmps24
    go_wp2
    go_quiet (fail)
    go_wp2_with fail
    refine (fault_any g b p e _ (hR.drewN _)).mono ?_
    rw [if_neg he]
    rintro x w1 ⟨rfl, n, rfl⟩
    go_wp2
    go_ret2
    exact ⟨rfl, _, by first | rfl | (simp [World.drewN_drewN]; rfl)⟩


end Go.Proofs.Ytpnfdmglhonkmaa
