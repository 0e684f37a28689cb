/- gafferref06.SameOutcome, at two outcomes that are one. -/
import Derived.Test.YtjloiclbknfomaaGreatDoorKg
set_option maxRecDepth 100000
namespace Go.Proofs.YtjloiclbknfomaaGreatDoor
open Go.RowKit Ieee

theorem res_self (a : Int) (b : Int) (w : World) : (binOp .eql 27 (.agg #[.int .i64 a, .int .u64 b]) (.agg #[.int .i64 a, .int .u64 b])).run Tryz.prog w = .ok (.bool true) w := by
  simp [go_sem]
set_option maxHeartbeats 1000000 in
theorem sameOutcome_any {Ac Ap Ac' Ap' : Option Addr} {cc cp cc' cp' : Nat} {lc lp : List (List UInt8)} {code bits : Int} {steps : Nat} (w : World) (h1 : ReadsAs w Ac lc) (h2 : ReadsAs w Ac' lc) (h3 : ReadsAs w Ap lp) (h4 : ReadsAs w Ap' lp) (hl1 : lc.length < 1073741824) (hl2 : lp.length < 1073741824) :
    Calls Tryz.prog 7 #[.agg #[.int .i64 code, .int .u64 bits, .slice Ac lc.length cc, .slice Ap lp.length cp, .int .i64 (steps : Nat)], .agg #[.int .i64 code, .int .u64 bits, .slice Ac' lc.length cc', .slice Ap' lp.length cp', .int .i64 (steps : Nat)]] w fun e w' => e = .returned (.bool true) ∧ Below w.heap.size w w' := by
  have k1 := fun W (hb : Below w.heap.size w W) => sameTexts_any (cap := cc) (cap' := cc') W (h1.keep hb) (h2.keep hb) hl1
  have k2 := fun W (hb : Below w.heap.size w W) => sameTexts_any (cap := cp) (cap' := cp') W (h3.keep hb) (h4.keep hb) hl2
  have hr := res_self code bits
  have HB := Lib.hid (Below.refl w.heap.size w)
  clear h1 h2 h3 h4 hl1 hl2
  generalize lc.length = n1 at *
  generalize lp.length = n2 at *
  have HB1 := Lib.hid (((Below.refl w.heap.size w).alloc (Nat.le_refl _) (.cells #[.int .i64 code, .int .u64 bits, .slice Ac n1 cc, .slice Ap n2 cp, .int .i64 (steps : Nat)] 30)).alloc (by simp) (.cells #[.int .i64 code, .int .u64 bits, .slice Ac' n1 cc', .slice Ap' n2 cp', .int .i64 (steps : Nat)] 30))
  go_enter Tryz.func7, Tryz.ntmps7
  go_wp2_with (first | (go_at_call 18; with_reducible (refine (k1 _ HB1.out).mono ?_); rintro _ _ ⟨rfl, kd, rfl⟩) | (go_at_call 18; with_reducible (refine (k2 _ (below_drewN HB1.out _)).mono ?_); rintro _ _ ⟨rfl, ke, rfl⟩))
  go_ret
  first
    | exact ⟨rfl, below_drewN HB1.out _⟩
    | exact ⟨rfl, below_drewN (below_drewN HB1.out _) _⟩
end Go.Proofs.YtjloiclbknfomaaGreatDoor
