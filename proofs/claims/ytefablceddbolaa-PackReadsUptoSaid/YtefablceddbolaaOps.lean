/- An argument that is a slice of calls, opened to its cells. -/
import Derived.Test.YtefablceddbolaaClose
namespace Go.Proofs.Ytefablceddbolaa
open Go.RowKit Go.WideShapes Go.ChangeShapes Go.Deep

/-- the cells of a slice of calls -/
def opCell (l : List (Int × Int)) (j : Nat) : Value := .int .i64 (if j % 2 = 0 then (l.getD (j / 2) (0, 0)).1 else (l.getD (j / 2) (0, 0)).2)

theorem opCell0 (l : List (Int × Int)) (k : Nat) : opCell l (k * 2) = .int .i64 (l.getD k (0, 0)).1 := by
  unfold opCell
  rw [if_pos (by omega), show k * 2 / 2 = k from by omega]
theorem opCell1 (l : List (Int × Int)) (k : Nat) : opCell l (k * 2 + 1) = .int .i64 (l.getD k (0, 0)).2 := by
  unfold opCell
  rw [if_neg (by omega), show (k * 2 + 1) / 2 = k from by omega]

def Fits (l : List (Int × Int)) : Prop := ∀ k, -9223372036854775808 ≤ (l.getD k (0, 0)).2 ∧ (l.getD k (0, 0)).2 ≤ 9223372036854775807

theorem wf_i64 {n : Int} (h : (Lit.int .i64 n).wf = true) : -9223372036854775808 ≤ n ∧ n ≤ 9223372036854775807 := by
  simpa [Lit.wf, IntKind.min, IntKind.max, IntKind.signed, IntKind.bits] using h

theorem open_ops {H : Type} {enc : TypeId × Value → H} {W : World} {base : Nat} {t e : TypeId} {f0 f1 : Field} {v : Value} {d : DataW H} {ps : List MemPlace} (ht : Try.prog.underlying t = some (.slice e)) (he : Try.prog.underlying e = some (.struct #[f0, f1]))
    (ce : Try.prog.cellsOf e = 2) (o0 : f0.offset = 0) (o1 : f1.offset = 1) (c0 : Try.prog.cellsOf f0.type = 1) (c1 : Try.prog.cellsOf f1.type = 1) (i0 : Try.prog.underlying f0.type = some (.int .i64)) (i1 : Try.prog.underlying f1.type = some (.int .i64))
    (hv : Value.okWide Try.prog W .any base t v) (h : DataW.Trod enc Try.prog W 0 (fun _ => true) true t v d ps) (hk : Rows.uptoBulk d ≤ 1048576) :
    ∃ (A : Option Addr) (n c : Nat) (l : List (Int × Int)), v = .slice A n c ∧ Sl W W.heap.size 2 A n (opCell l) ∧ Fits l ∧ l.length = n ∧ n < 1048576 := by
  obtain ⟨a0, len, cap, rfl⟩ := okWide_slice ht hv
  obtain ⟨fuel, hf⟩ := h
  rcases open_slice_pairs ht he ce o0 o1 c0 c1 hf with ⟨hcs, hx⟩ | ⟨a, len', cap', m, nf, V0, V1, D0, D1, P0, P1, hcs, hb, hl, hm, hmm, hx, hcell⟩
  · simp [Value.cells] at hcs
    obtain ⟨rfl, rfl, rfl⟩ := hcs
    exact ⟨none, 0, 0, [], rfl, fun h => absurd h (by omega), fun k => by simp, rfl, by omega⟩
  · simp [Value.cells] at hcs
    obtain ⟨rfl, rfl, rfl⟩ := hcs
    injection hx with hd _
    subst hd
    have hlen : len < 1048576 := by simpa using bulk_slice hk
    have hlm : len ≤ m := by rw [hmm]; split <;> omega
    have each : ∀ i, i < len → ∃ q : Int × Int, W.cell? (a.add (i * 2)) = some (.int .i64 q.1) ∧ W.cell? (a.add (i * 2 + 1)) = some (.int .i64 q.2) ∧ -9223372036854775808 ≤ q.2 ∧ q.2 ≤ 9223372036854775807 := by
      intro i hi
      obtain ⟨h0, h1, t0, t1⟩ := hcell i (by omega)
      obtain ⟨x, hx0, _, _⟩ := DataW.trod_int i0 t0
      obtain ⟨y, hy0, _, wy⟩ := DataW.trod_int i1 t1
      simp at hx0 hy0
      rw [hx0] at h0
      rw [hy0] at h1
      exact ⟨(x, y), h0, h1, wf_i64 wy⟩
    obtain ⟨Q, hQ⟩ := choose_lt each
    refine ⟨some a, len, cap, (List.range len).map Q, rfl, fun hn => ?_, fun k => ?_, by simp, hlen⟩
    · have h0 := (hQ 0 hn).1
      rw [show a.add (0 * 2) = a from rfl] at h0
      have ha := addr_plain h0
      refine ⟨a.block, a.off, by rw [← ha], World.block_lt_of_cell? W a h0, fun j hj => ?_⟩
      have hk2 : j / 2 < len := by omega
      have g : ((List.range len).map Q).getD (j / 2) (0, 0) = Q (j / 2) := by simp [hk2]
      unfold opCell
      rw [g]
      obtain ⟨q0, q1, _⟩ := hQ (j / 2) hk2
      rw [ha, add_plain] at q0 q1
      by_cases hj2 : j % 2 = 0
      · rw [if_pos hj2, ← q0]
        congr 2
        omega
      · rw [if_neg hj2, ← q1]
        congr 2
        omega
    · by_cases hk2 : k < len
      · have g : ((List.range len).map Q).getD k (0, 0) = Q k := by simp [hk2]
        rw [g]
        exact (hQ k hk2).2.2
      · have g : ((List.range len).map Q).getD k (0, 0) = (0, 0) := by simp [hk2]
        rw [g]
        decide
end Go.Proofs.Ytefablceddbolaa
