/- The document's first program: what the machine tells of it; gafferlaw06.awake. -/
import Derived.Test.YtjloiclbknfomaaGreatDoorKy
set_option maxRecDepth 100000
namespace Go.Proofs.YtjloiclbknfomaaGreatDoor
open Go.RowKit Ieee

def exCode : List Ins := [⟨1, 0, 0, 0, 0, 4609434218613702656⟩, ⟨21, 0, 0, 0, 0, 0⟩, ⟨14, 0, 0, 0, 3, 0⟩]
theorem ex_ok : (progCheck ((9 : Nat) : Int) exCode).1 = 0 := by decide +kernel
theorem ex_k : ∀ x ∈ exCode, x.k < 2 * signB := by decide +kernel
theorem ex_whole : (wholeM 9 exCode).1.rcode = 0 ∧ (wholeM 9 exCode).1.rbits = 4609434218613702656 ∧ (wholeM 9 exCode).1.done = 3 ∧ (wholeM 9 exCode).2 = [(1, [51, 112, 45, 49])] := by decide +kernel
theorem ex_run : (runM 2 (newM 9 exCode)).2 = [(1, [51, 112, 45, 49])] ∧ (runM 2 (newM 9 exCode)).1.over = false := by decide +kernel
theorem ex_step : (stepM (runM 2 (newM 9 exCode)).1).2 = (0, []) ∧ (stepM (runM 2 (newM 9 exCode)).1).1.over = true ∧ (stepM (runM 2 (newM 9 exCode)).1).1.done = 3 ∧ (stepM (runM 2 (newM 9 exCode)).1).1.at_ = 3 ∧ (stepM (runM 2 (newM 9 exCode)).1).1.regs.getD 0 0 = 4609434218613702656 ∧ (stepM (runM 2 (newM 9 exCode)).1).1.rcode = 0 ∧ (stepM (runM 2 (newM 9 exCode)).1).1.rbits = 4609434218613702656 := by decide +kernel
def exCells : Array Value := #[.int .i64 1, .int .i64 0, .int .i64 0, .int .i64 0, .int .i64 0, .int .u64 4609434218613702656, .int .i64 21, .int .i64 0, .int .i64 0, .int .i64 0, .int .i64 0, .int .u64 0, .int .i64 14, .int .i64 0, .int .i64 0, .int .i64 0, .int .i64 3, .int .u64 0]

theorem example_any (w : World) : Calls Tryz.prog 19 #[] w fun e w' => ∃ b, e = .returned (.agg #[.int .i64 9, .slice (some ⟨b, 0, none⟩) 3 3]) ∧ CodeIn w' w'.heap.size (some ⟨b, 0, none⟩) exCode ∧ Below w.heap.size w w' := by
  go_enter Tryz.func19, Tryz.ntmps19
  go_wp2
  refine bodyPost_ret (v := .agg #[.int .i64 9, .slice (some ⟨w.heap.size + 1, 0, none⟩) 3 3]) (by simp [results, Tryz.results19, go_sem]) rfl ?_
  refine ⟨w.heap.size + 1, rfl, ?_, ?_⟩
  · intro _
    have hc : ∀ wz : World, Cells wz (w.heap.size + 1) 77 exCells → ∀ (i : Nat) (x : Ins), exCode[i]? = some x → InsAt wz (w.heap.size + 1) (0 + i * 6) x ∧ x.k < 2 * signB := by
      intro wz h i x hx
      refine ⟨?_, ex_k x (List.mem_of_getElem? hx)⟩
      match i with
      | 0 => simp [exCode] at hx; subst hx; exact ⟨h.cell (j := 0) rfl, h.cell (j := 1) rfl, h.cell (j := 2) rfl, h.cell (j := 3) rfl, h.cell (j := 4) rfl, h.cell (j := 5) rfl⟩
      | 1 => simp [exCode] at hx; subst hx; exact ⟨h.cell (j := 6) rfl, h.cell (j := 7) rfl, h.cell (j := 8) rfl, h.cell (j := 9) rfl, h.cell (j := 10) rfl, h.cell (j := 11) rfl⟩
      | 2 => simp [exCode] at hx; subst hx; exact ⟨h.cell (j := 12) rfl, h.cell (j := 13) rfl, h.cell (j := 14) rfl, h.cell (j := 15) rfl, h.cell (j := 16) rfl, h.cell (j := 17) rfl⟩
      | i + 3 => simp [exCode] at hx
    first
      | exact ⟨w.heap.size + 1, 0, rfl, by simp, hc _ (Cells.newAt _ _ _ _ (by simp))⟩
  · first
      | exact ((Below.refl _ _).alloc (Nat.le_refl _) _).alloc (by simp) _

theorem whole_ex {b : Nat} (w : World) (hC : CodeIn w w.heap.size (some ⟨b, 0, none⟩) exCode) (hT : ∀ wz, Below w.heap.size w wz → TabsAt wz) :
    Calls Tryz.prog 5 #[.agg #[.int .i64 9, .slice (some ⟨b, 0, none⟩) 3 3]] w fun e w' => ∃ c cc Ap cp, e = .returned (.tuple #[.agg #[.int .i64 0, .int .u64 4609434218613702656, .slice (some ⟨c, 0, none⟩) 1 cc, .slice Ap 0 cp, .int .i64 3], .int .i64 0]) ∧ w'.cell? ⟨c, 0, none⟩ = some (.string ⟨#[51, 112, 45, 49]⟩) ∧ 1 ≤ cc ∧ Below w.heap.size w w' := by
  refine (whole_good (fuel := 9) (cap := 3) w hC ex_ok hT).mono fun e w' ⟨ch, pi, he, hch, hpi, _, hb⟩ => ?_
  obtain ⟨h1, h2, h3, h4⟩ := ex_whole
  rw [h1, h2, h3] at he
  rw [h4] at hch hpi
  have h1l : chunksOf [((1 : Int), ([51, 112, 45, 49] : List UInt8))] = [[51, 112, 45, 49]] := by decide +kernel
  have h2l : piecesOf [((1 : Int), ([51, 112, 45, 49] : List UInt8))] = [] := by decide +kernel
  rw [h1l] at hch
  rw [h2l] at hpi
  rcases own_shape hch with ⟨_, hn⟩ | ⟨c, cc, rfl, hle⟩
  · simp at hn
  obtain ⟨Ap, cp, rfl⟩ := own_slice hpi
  exact ⟨c, cc, Ap, cp, he, hch.cellAt 0 (by decide), hle, hb⟩
end Go.Proofs.YtjloiclbknfomaaGreatDoor
