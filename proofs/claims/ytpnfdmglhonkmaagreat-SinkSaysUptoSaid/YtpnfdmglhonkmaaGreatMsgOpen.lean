/- An argument that is a message, opened. -/
import Derived.Test.YtpnfdmglhonkmaaGreatRw
import Derived.Test.YtpnfdmglhonkmaaGreatMb
set_option maxRecDepth 100000
namespace Go.Proofs.YtpnfdmglhonkmaaGreat
open Go.ChangeShapes Go.WideShapes Go.Deep Go.RowKit

theorem cells_of : Tryz.prog.cellsOf 3 = 1 ∧ Tryz.prog.cellsOf 23 = 1 ∧ Tryz.prog.cellsOf 9 = 1 ∧ Tryz.prog.cellsOf 25 = 2 ∧ Tryz.prog.cellsOf 27 = 11 := by
  refine ⟨?_, ?_, ?_, ?_, ?_⟩ <;> kernel_rfl

theorem wf_i64 {n : Int} (h : (Lit.int .i64 n).wf = true) : -9223372036854775808 ≤ n ∧ n ≤ 9223372036854775807 := by
  simpa [Lit.wf, IntKind.min, IntKind.max, IntKind.signed, IntKind.bits] using h
theorem wf_u64' {n : Int} (h : (Lit.int .u64 n).wf = true) : 0 ≤ n ∧ n ≤ 18446744073709551615 := by
  simpa [Lit.wf, IntKind.min, IntKind.max, IntKind.signed, IntKind.bits] using h

set_option maxHeartbeats 1000000 in
theorem open_msg {H : Type} {enc : TypeId × Value → H} {W : World} {base : Nat} {v : Value} {d : DataW H} {ps : List MemPlace}
    (hv : Value.okWide Tryz.prog W .any base 27 v) (h : DataW.Trod enc Tryz.prog W 0 (fun _ => true) true 27 v d ps) (hk : Rows.uptoBulk d ≤ 1048576) :
    ∃ m : Mg, v = m.val ∧ m.Fit := by
  obtain ⟨ci, cu, cs, cr, cm⟩ := cells_of
  obtain ⟨cells, rfl, hsz⟩ := okWide_struct Tryz.underlying27 hv
  rw [cm] at hsz
  obtain ⟨l⟩ := cells
  match l, hsz with
  | [c0, c1, c2, c3, c4, c5, c6, c7, c8, c9, c10], _ =>
    obtain ⟨fuel, hf⟩ := h
    obtain ⟨xs, n, _, hx, _, hlen, hg⟩ := DataW.trod_struct Tryz.underlying27 hf
    match xs, hlen with
    | [y0, y1, y2, y3, y4, y5, y6, y7, y8, y9], _ =>
      simp only [Prod.mk.injEq] at hx
      have t0 := hg 0 _ rfl
      have t1 := hg 1 _ rfl
      have t2 := hg 2 _ rfl
      have t3 := hg 3 _ rfl
      have t4 := hg 4 _ rfl
      have t5 := hg 5 _ rfl
      have t6 := hg 6 _ rfl
      have t7 := hg 7 _ rfl
      have t8 := hg 8 _ rfl
      have t9 := hg 9 _ rfl
      simp [ci, cs, cr, Value.cells] at t0 t1 t2 t3 t4 t5 t6 t7 t8 t9
      obtain ⟨x0, e0, z0, w0⟩ := DataW.trod_int Tryz.underlying3 t0
      obtain ⟨x1, e1, z1, w1⟩ := DataW.trod_int Tryz.underlying3 t1
      obtain ⟨x2, e2, z2, w2⟩ := DataW.trod_int Tryz.underlying3 t2
      obtain ⟨x3, e3, z3, w3⟩ := DataW.trod_int Tryz.underlying3 t3
      obtain ⟨x4, e4, z4, w4⟩ := DataW.trod_int Tryz.underlying3 t4
      obtain ⟨x5, e5, z5, w5⟩ := DataW.trod_int Tryz.underlying3 t5
      obtain ⟨x6, e6, z6, w6⟩ := DataW.trod_int Tryz.underlying3 t6
      obtain ⟨us, n7, _, hu, _, hul, hug⟩ := DataW.trod_struct Tryz.underlying25 t7
      have r0 := hug 0 _ rfl
      have r1 := hug 1 _ rfl
      match us, hul with
      | [u0, u1], _ =>
        simp [ci, cu] at r0 r1
        obtain ⟨x7, e7, z7, w7⟩ := DataW.trod_int Tryz.underlying3 r0
        obtain ⟨x8, e8, z8, w8⟩ := DataW.trod_int Tryz.underlying23 r1
        obtain ⟨x9, e9, z9, w9⟩ := DataW.trod_string Tryz.underlying9 t8
        obtain ⟨x10, e10, z10, w10⟩ := DataW.trod_string Tryz.underlying9 t9
        simp at e0 e1 e2 e3 e4 e5 e6 e7 e8 e9 e10
        subst e0 e1 e2 e3 e4 e5 e6 e7 e8 e9 e10
        have hd := hx.1
        rw [hd] at hk
        simp only [List.map_cons, List.map_nil, Rows.uptoBulk, Rows.uptoBulkAll] at hk
        have b9 : Rows.uptoBulk y8.1 ≤ 1048576 := by omega
        have b10 : Rows.uptoBulk y9.1 ≤ 1048576 := by omega
        rw [z9] at b9
        rw [z10] at b10
        have s9 := bulk_string b9
        have s10 := bulk_string b10
        exact ⟨⟨x0, x1, x2, x3, x4, x5, x6, x7, x8, x9, x10⟩, rfl, ⟨wf_i64 w0, wf_i64 w1, wf_i64 w2, wf_i64 w3, wf_i64 w4, wf_i64 w5, wf_i64 w6, wf_i64 w7, wf_u64' w8, by simp only; omega, by simp only; omega⟩⟩
end Go.Proofs.YtpnfdmglhonkmaaGreat
