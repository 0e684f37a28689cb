/- A slice of int that came in, opened to its cells. -/
import Derived.Test.YtpnfdmglhonkmaaRw
import Derived.ChangeSlices
set_option maxRecDepth 100000
namespace Go.Proofs.Ytpnfdmglhonkmaa
open Go.ChangeShapes Go.WideShapes Go.Deep Go.RowKit

def intCell (k : IntKind) (l : List Int) (j : Nat) : Value := .int k (l.getD j 0)

theorem open_int_slice {k : IntKind} {H : Type} {enc : TypeId × Value → H} {W : World} {base : Nat} {t e : TypeId} {v : Value} {d : DataW H} {ps : List MemPlace} (ht : Try.prog.underlying t = some (.slice e)) (he : Try.prog.underlying e = some (.int k))
    (hC : Try.prog.cellsOf e = 1) (hv : Value.okWide Try.prog W .any base t v) (h : DataW.Trod enc Try.prog W 0 (fun _ => true) true t v d ps) (hk : Rows.uptoBulk d ≤ 1048576) :
    ∃ (A : Option Addr) (n c : Nat) (l : List Int), v = .slice A n c ∧ Sl W W.heap.size 1 A n (intCell k l) ∧ l.length = n ∧ n < 1048576 ∧ ∀ x ∈ l, (Lit.int k x).wf = true := by
  obtain ⟨a0, len, cap, rfl⟩ := okWide_slice ht hv
  obtain ⟨fuel, hf⟩ := h
  rcases open_ints ht he hC hf with ⟨hcs, hx⟩ | ⟨a, len', cap', zs, hcs, hb, hl, hm, hzl, hx, hcell, hwf⟩
  · simp [Value.cells] at hcs
    obtain ⟨rfl, rfl, rfl⟩ := hcs
    exact ⟨none, 0, 0, [], rfl, fun h => absurd h (by omega), rfl, by omega, fun x hx => by simp at hx⟩
  · simp [Value.cells] at hcs
    obtain ⟨rfl, rfl, rfl⟩ := hcs
    injection hx with hd _
    subst hd
    have hlm : len ≤ zs.length := by rw [hzl]; split <;> omega
    have hlen : len < 1048576 := by
      have := bulk_slice hk
      simpa [lits, hlm] using this
    refine ⟨some a, len, cap, zs.take len, rfl, fun hn => ?_, by simp [hlm], hlen, fun x hx => hwf x (List.mem_of_mem_take hx)⟩
    have h0 := hcell 0 (by omega)
    rw [show a.add 0 = a from rfl] at h0
    have ha := addr_plain h0
    refine ⟨a.block, a.off, by rw [← ha], World.block_lt_of_cell? W a h0, fun j hj => ?_⟩
    have q := hcell j (by omega)
    rw [ha, add_plain] at q
    rw [q]
    unfold intCell
    congr 2
    simp only [List.getD_eq_getElem?_getD]
    rw [List.getElem?_take_of_lt (by omega)]
end Go.Proofs.Ytpnfdmglhonkmaa
