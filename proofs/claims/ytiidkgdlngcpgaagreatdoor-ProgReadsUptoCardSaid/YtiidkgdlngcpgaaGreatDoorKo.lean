/- An argument that is a program, opened to its cells. -/
import Derived.Test.YtiidkgdlngcpgaaGreatDoorKp2
import Derived.Test.YtiidkgdlngcpgaaGreatDoorRows
import Derived.ProofKit
import Derived.OpenShut
set_option maxRecDepth 100000
namespace Go.Proofs.YtiidkgdlngcpgaaGreatDoor
open Go.ChangeShapes Go.WideShapes Go.Deep Go.RowKit

theorem choose_ins {Q : Nat → Ins → Prop} : ∀ n : Nat, (∀ i, i < n → ∃ q, Q i q) → ∃ f : Nat → Ins, ∀ i, i < n → Q i (f i) := fun n h =>
  ⟨fun i => if hi : i < n then Classical.choose (h i hi) else default, fun i hi => by simp only [hi, dif_pos]; exact Classical.choose_spec (h i hi)⟩
theorem cells_prog : Tryz.prog.cellsOf 3 = 1 ∧ Tryz.prog.cellsOf 22 = 1 ∧ Tryz.prog.cellsOf 24 = 2 := by
  refine ⟨?_, ?_, ?_⟩ <;> kernel_rfl
theorem wf64 {n : Int} (h : (Lit.int .u64 n).wf = true) : 0 ≤ n ∧ n ≤ 18446744073709551615 := by
  simpa [Lit.wf, IntKind.min, IntKind.max, IntKind.signed, IntKind.bits] using h
theorem wfi {n : Int} (h : (Lit.int .i64 n).wf = true) : -9223372036854775808 ≤ n ∧ n ≤ 9223372036854775807 := by
  simpa [Lit.wf, IntKind.min, IntKind.max, IntKind.signed, IntKind.bits] using h

theorem open_code {H : Type} {enc : TypeId × Value → H} {W : World} {base fuel : Nat} {c1 : Value} {y : DataW H × List MemPlace} (h : DataW.trod enc Tryz.prog W base (fun _ => true) true fuel 22 [c1] = some y) :
    ∃ (A : Option Addr) (l : List Ins) (cap : Nat), c1 = .slice A l.length cap ∧ CodeIn W W.heap.size A l := by
  rcases open_slice_fields Tryz.underlying22 Tryz.underlying43 (by kernel_rfl) (by kernel_rfl) h with ⟨hcs, hx⟩ | ⟨a, len, cap, m, D, Pl, hcs, hb, hl, hm, hmm, hx, hcell⟩
  · simp at hcs
    exact ⟨none, [], 0, hcs, fun h => absurd h (by simp)⟩
  · simp at hcs
    have hlm : len ≤ m := by rw [hmm]; split <;> omega
    have each : ∀ i, i < len → ∃ q : Ins, W.cell? (a.add (i * 6)) = some (.int .i64 q.op) ∧ W.cell? (a.add (i * 6 + 1)) = some (.int .i64 q.a) ∧ W.cell? (a.add (i * 6 + 2)) = some (.int .i64 q.b) ∧ W.cell? (a.add (i * 6 + 3)) = some (.int .i64 q.c) ∧ W.cell? (a.add (i * 6 + 4)) = some (.int .i64 q.n) ∧ W.cell? (a.add (i * 6 + 5)) = some (.int .u64 (q.k : Int)) ∧ q.k < 2 * signB := by
      intro i hi
      obtain ⟨ys, k, hD, _, hlen, hf⟩ := hcell i (by omega)
      obtain ⟨u0, y0, g0, _, t0⟩ := hf 0 _ rfl
      obtain ⟨u1, y1, g1, _, t1⟩ := hf 1 _ rfl
      obtain ⟨u2, y2, g2, _, t2⟩ := hf 2 _ rfl
      obtain ⟨u3, y3, g3, _, t3⟩ := hf 3 _ rfl
      obtain ⟨u4, y4, g4, _, t4⟩ := hf 4 _ rfl
      obtain ⟨u5, y5, g5, _, t5⟩ := hf 5 _ rfl
      obtain ⟨x0, e0, _, _⟩ := DataW.trod_int Tryz.underlying3 t0
      obtain ⟨x1, e1, _, _⟩ := DataW.trod_int Tryz.underlying3 t1
      obtain ⟨x2, e2, _, _⟩ := DataW.trod_int Tryz.underlying3 t2
      obtain ⟨x3, e3, _, _⟩ := DataW.trod_int Tryz.underlying3 t3
      obtain ⟨x4, e4, _, _⟩ := DataW.trod_int Tryz.underlying3 t4
      obtain ⟨x5, e5, _, w5⟩ := DataW.trod_int Tryz.underlying41 t5
      simp at e0 e1 e2 e3 e4 e5
      subst e0 e1 e2 e3 e4 e5
      have w5' := wf64 w5
      obtain ⟨k5, rfl⟩ := Int.eq_ofNat_of_zero_le w5'.1
      exact ⟨⟨x0, x1, x2, x3, x4, k5⟩, g0, g1, g2, g3, g4, g5, by simp only; unfold signB; omega⟩
    obtain ⟨Q, hQ⟩ := choose_ins len each
    refine ⟨some a, (List.range len).map Q, cap, by rw [hcs]; simp, fun hpos => ?_⟩
    have hn0 : 0 < len := by simpa using hpos
    have h0 := (hQ 0 hn0).1
    rw [show a.add (0 * 6) = a from rfl] at h0
    have ha := addr_plain h0
    refine ⟨a.block, a.off, by rw [← ha], World.block_lt_of_cell? W a h0, fun i x hx => ?_⟩
    have hi : i < len := by
      have := (List.getElem?_eq_some_iff.1 hx).1
      simpa using this
    have hxe : x = Q i := by
      simp [hi] at hx
      exact hx.symm
    subst hxe
    obtain ⟨q0, q1, q2, q3, q4, q5, q6⟩ := hQ i hi
    rw [ha, add_plain] at q0 q1 q2 q3 q4 q5
    exact ⟨⟨q0, q1, q2, q3, q4, q5⟩, q6⟩

theorem open_prog {H : Type} {enc : TypeId × Value → H} {W : World} {base : Nat} {v : Value} {d : DataW H} {ps : List MemPlace}
    (hv : Value.okWide Tryz.prog W .any base 24 v) (h : DataW.Trod enc Tryz.prog W 0 (fun _ => true) true 24 v d ps) :
    ∃ (fuel : Int) (A : Option Addr) (l : List Ins) (cap : Nat), v = .agg #[.int .i64 fuel, .slice A l.length cap] ∧ CodeIn W W.heap.size A l ∧ -9223372036854775808 ≤ fuel ∧ fuel ≤ 9223372036854775807 := by
  obtain ⟨ci, cs, cm⟩ := cells_prog
  obtain ⟨cells, rfl, hsz⟩ := okWide_struct Tryz.underlying24 hv
  rw [cm] at hsz
  obtain ⟨l⟩ := cells
  match l, hsz with
  | [c0, c1], _ =>
    obtain ⟨fuel, hf⟩ := h
    obtain ⟨xs, n, _, hx, _, hlen, hg⟩ := DataW.trod_struct Tryz.underlying24 hf
    match xs, hlen with
    | [y0, y1], _ =>
      have t0 := hg 0 _ rfl
      have t1 := hg 1 _ rfl
      simp [ci, cs, Value.cells] at t0 t1
      obtain ⟨x0, e0, z0, w0⟩ := DataW.trod_int Tryz.underlying3 t0
      simp at e0
      subst e0
      obtain ⟨A, l, cap, rfl, hC⟩ := open_code t1
      exact ⟨x0, A, l, cap, rfl, hC, wfi w0⟩
end Go.Proofs.YtiidkgdlngcpgaaGreatDoor
