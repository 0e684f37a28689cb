/- gafferlaw02.same: the reader and the reference's stand alike. -/
import Derived.Test.YtefablceddbolaaDoes
import Derived.BigQuiet
namespace Go.Proofs.Ytefablceddbolaa
open Go.RowKit

theorem at_same (g : Nat) (b : ByteArray) (p : Nat) (e : Int) (w : World) (hR : Rdr w g b p e) :
    Calls Try.prog 23 #[.pointer (some ⟨g, 0, none⟩)] w fun x w' => x = .returned (.int .i64 (p : Int)) ∧ w' = w :=
  (at_any g b p e w hR).mono fun _ _ ⟨h1, h2⟩ => ⟨h1, h2.symm⟩

set_option maxHeartbeats 4000000 in
set_option maxRecDepth 100000 in
theorem same_any (g h off : Nat) (b : ByteArray) (p : Nat) (e : Int) (w : World) (hR : Rdr w g b p e) (hF : Ref w h off b p e (fa e p)) (hp : p ≤ b.size) (hb : b.size < 4294967296) :
    Calls Try.prog 29 #[.pointer (some ⟨g, 0, none⟩), .pointer (some ⟨h, off, none⟩)] w fun x w' => x = .returned (.bool true) ∧ ∃ n, w' = w.drewN n := by
  go_enter Try.func29, Try.ntmps29
  go_wp2_with fail
  refine (fault_any g b p e _ hR).mono ?_
  rw [show (if e = 0 then (0 : Int) else (p : Int)) = fa e p from rfl]
  rintro x w1 ⟨rfl, n1, rfl⟩
  go_wp2_with fail
  refine (end_any g b p e _ (hR.drewN n1)).mono ?_
  rintro x w2 ⟨rfl, n2, rfl⟩
  go_wp2_with fail
  refine (fEnd h off b p e _ (hF.drewN (n1 + n2))).mono ?_
  rintro x w3 ⟨rfl, n3, rfl⟩
  have hRz : Rdr ((w.drewN (n1 + n2)).drewN n3) g b p e := hR
  have hFz : Ref ((w.drewN (n1 + n2)).drewN n3) h off b p e (fa e p) := hF
  have hz : ∃ n, ((w.drewN (n1 + n2)).drewN n3) = w.drewN n := ⟨n1 + n2 + n3, by rw [World.drewN_drewN]⟩
  generalize ((w.drewN (n1 + n2)).drewN n3) = wz at hRz hFz hz ⊢
  have c0 := hFz.c0
  have c1 := hFz.c1
  have c2 := hFz.c2
  have c3 := hFz.c3
  obtain ⟨A1, hA1⟩ : ∃ A, A = endE b p e := ⟨_, rfl⟩
  obtain ⟨A2, hA2⟩ : ∃ A, A = endP b p e := ⟨_, rfl⟩
  obtain ⟨A3, hA3⟩ : ∃ A, A = fa e p := ⟨_, rfl⟩
  rw [← hA1, ← hA2]
  rw [← hA3] at c3 ⊢
  clear hA1 hA2 hA3
  have hsub : ((b.size - p : Nat) : Int) = (b.size : Int) - p := by omega
  have hleft := fun nn => left_any g b p e (wz.drewN nn) (hRz.drewN nn) hp hb
  rw [hsub] at hleft
  have HL := Lib.hid hleft
  clear hleft hsub
  go_wp2
  go_quiet ((first
    | (go_at_call 23; refine Calls.quiet_of_same (at_same _ _ _ _ _ (hRz.drewN _)))
    | (go_at_call 24; refine Calls.quiet_of (HL.out _))))
  go_wp2
  go_ret
  obtain ⟨n, rfl⟩ := hz
  exact ⟨rfl, _, by first | rfl | (rw [World.drewN_drewN])⟩
end Go.Proofs.Ytefablceddbolaa
