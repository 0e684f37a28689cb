/- gafferref16.SameArtefacts, at the artefacts of two sinks that have the same. -/
import Derived.Test.YtpnfdmglhonkmaaSameTexts
import Derived.Test.YtpnfdmglhonkmaaArtefacts
set_option maxRecDepth 100000
namespace Go.Proofs.Ytpnfdmglhonkmaa
open Go.RowKit Go.Maps

theorem flat_at (L : List AE) (k : Nat) (x : AE) (hx : L[k]? = some x) (i : Nat) (hi : i < 3) : (L.flatMap encA)[k * 3 + i]? = (encA x)[i]? := by
  have hk := (List.getElem?_eq_some_iff.1 hx).1
  rw [flatMap_get L (k * 3 + i) (by omega)]
  have e1 : (k * 3 + i) / 3 = k := by omega
  have e2 : (k * 3 + i) % 3 = i := by omega
  rw [e1, e2, getElem!_pos _ k (by simpa using hk)]
  have := (List.getElem?_eq_some_iff.1 hx).2
  simp only [List.getElem_toArray]
  rw [this]

/-- the element k of two sinks' artefacts -/
theorem ArtsOut.at_ {w : World} {base base' : Nat} {v v' : Value} {L L' : List AE} {s s' : Snk} (h : ArtsOut w base v L s) (h' : ArtsOut w base' v' L' s') (hs : ∀ j, s.art j = s'.art j) :
    ∃ A cap A' cap', v = .slice A L.length cap ∧ v' = .slice A' L.length cap' ∧ ∀ k, k < L.length → ∃ (g g' : Nat) (j : Fin 9) (b : Int) (p p' : Value) (l : List ByteArray), A = some ⟨g, 0, none⟩ ∧ A' = some ⟨g', 0, none⟩ ∧ s.art (j.val : Int) = some ⟨b, l⟩ ∧
      w.cell? ⟨g, k * 3, none⟩ = some (.int .i64 (j.val : Int)) ∧ w.cell? ⟨g, k * 3 + 1, none⟩ = some (.int .i64 b) ∧ w.cell? ⟨g, k * 3 + 2, none⟩ = some p ∧ w.cell? ⟨g', k * 3, none⟩ = some (.int .i64 (j.val : Int)) ∧ w.cell? ⟨g', k * 3 + 1, none⟩ = some (.int .i64 b) ∧ w.cell? ⟨g', k * 3 + 2, none⟩ = some p' ∧
      (∃ a n c, p = .slice a n c) ∧ (∃ a n c, p' = .slice a n c) ∧ Strs w p l ∧ Strs w p' l := by
  have hj : L.map (·.1) = L'.map (·.1) := by
    rw [h.jobs, h'.jobs]
    unfold Snk.jobs
    congr 1
    funext j
    rw [hs]
  have hlen : L'.length = L.length := by simpa using (congrArg List.length hj).symm
  obtain ⟨A, cap, rfl⟩ : ∃ A cap, v = .slice A L.length cap := by
    rcases own_shape h.row with ⟨rfl, hn⟩ | ⟨g, cap, rfl, _⟩
    · exact ⟨none, 0, by rw [hn]⟩
    · exact ⟨_, cap, rfl⟩
  obtain ⟨A', cap', rfl⟩ : ∃ A cap, v' = .slice A L.length cap := by
    rcases own_shape h'.row with ⟨rfl, hn⟩ | ⟨g, cap, rfl, _⟩
    · exact ⟨none, 0, by rw [← hlen, hn]⟩
    · exact ⟨_, cap, by rw [hlen]⟩
  refine ⟨A, cap, A', cap', rfl, rfl, fun k hk => ?_⟩
  obtain ⟨x, hx⟩ : ∃ x, L[k]? = some x := ⟨_, List.getElem?_eq_getElem hk⟩
  obtain ⟨y, hy⟩ : ∃ y, L'[k]? = some y := ⟨_, List.getElem?_eq_getElem (by omega)⟩
  have hxy : x.1 = y.1 := by
    have := congrArg (fun l : List (Fin 9) => l[k]?) hj
    simpa [hx, hy] using this
  obtain ⟨a, e1, e2, e3⟩ := h.each x (List.mem_of_getElem? hx)
  obtain ⟨a', d1, d2, d3⟩ := h'.each y (List.mem_of_getElem? hy)
  rw [← hxy, ← hs, e1] at d1
  injection d1 with d1
  subst d1
  rcases h.row.2 with ⟨hv, hn⟩ | ⟨g, c, cur, hv, _, hg, _⟩
  · omega
  rcases h'.row.2 with ⟨hv', hn⟩ | ⟨g', c', cur', hv', _, hg', _⟩
  · omega
  have r1 := h.row
  have r2 := h'.row
  rw [hv] at r1
  rw [hv'] at r2
  injection hv with hA _ _
  injection hv' with hA' _ _
  have q := fun i (hi : i < 3) => (r1.cellAt (k * 3 + i) (by omega)).trans (flat_at L k x hx i hi)
  have q' := fun i (hi : i < 3) => (r2.cellAt (k * 3 + i) (by omega)).trans (flat_at L' k y hy i hi)
  refine ⟨g, g', x.1, a.badge, _, _, a.pieces, hA, hA', e1, q 0 (by omega), ?_, q 2 (by omega), ?_, ?_, q' 2 (by omega), ⟨_, _, _, rfl⟩, ⟨_, _, _, rfl⟩, e3.mono (Nat.zero_le _), d3.mono (Nat.zero_le _)⟩
  · rw [q 1 (by omega), ← e2]; rfl
  · exact (q' 0 (by omega)).trans (by rw [hxy]; rfl)
  · rw [q' 1 (by omega), ← d2]; rfl

set_option maxHeartbeats 4000000 in
theorem sameArts_any {base base' : Nat} {v v' : Value} {L L' : List AE} {s s' : Snk} (w : World) (h : ArtsOut w base v L s) (h' : ArtsOut w base' v' L' s') (hs : ∀ j, s.art j = s'.art j) (hfit : s.Fit) (hl : L.length ≤ 9) :
    Calls Try.prog 13 #[v, v'] w fun e w' => e = .returned (.bool true) ∧ ∃ n, w' = w.drewN n := by
  obtain ⟨A, cap, A', cap', rfl, rfl, hat⟩ := h.at_ h' hs
  have HAT := Lib.hid hat
  clear hat h h'
  generalize L.length = n at *
  go_enter Try.func13, Try.ntmps13
  go_wp2
  go_loopw [5] (fun i wr => ∃ k m : Nat, k ≤ n ∧ i = .int .i64 (k : Int) ∧ wr = w.drewN m) (fun i _ => n - (intOf i).toNat)
  case atStart => exact ⟨0, 0, Nat.zero_le _, rfl, rfl⟩
  case round =>
    obtain ⟨k, m, hk, rfl, rfl⟩ := hrel
    by_cases hlt : k < n
    · obtain ⟨g, g', j, b, p, p', l, rfl, rfl, ha, c0, c1, c2, d0, d1, d2, ⟨a, n1, q, rfl⟩, ⟨a', n1', q', rfl⟩, s1, s2⟩ := HAT.out k hlt
      have hpl := hfit.pieces _ _ ha
      replace c0 : (w.drewN m).cell? ⟨g, k * 3, none⟩ = some (.int .i64 (j.val : Int)) := c0
      replace c1 : (w.drewN m).cell? ⟨g, k * 3 + 1, none⟩ = some (.int .i64 b) := c1
      replace c2 : (w.drewN m).cell? ⟨g, k * 3 + 2, none⟩ = some (.slice a n1 q) := c2
      replace d0 : (w.drewN m).cell? ⟨g', k * 3, none⟩ = some (.int .i64 (j.val : Int)) := d0
      replace d1 : (w.drewN m).cell? ⟨g', k * 3 + 1, none⟩ = some (.int .i64 b) := d1
      replace d2 : (w.drewN m).cell? ⟨g', k * 3 + 2, none⟩ = some (.slice a' n1' q') := d2
      have HC := Lib.hid fun mm => sameTexts_any ((w.drewN m).drewN mm) (show Strs ((w.drewN m).drewN mm) _ l from s1) (show Strs ((w.drewN m).drewN mm) _ l from s2) (by simp only at hpl; omega)
      have hi0 : (0 : Int) ≤ (k : Int) := by omega
      have hi1 : (k : Int) < (n : Int) := by omega
      clear s1 s2 hpl ha hs hfit
      generalize hwz : w.drewN m = wz at *
      go_wp2
      go_quiet ((go_at_call 12; refine Calls.quiet_of (HC.out _)))
      go_wp2
      go_roundw
      case rel => exact ⟨k + 1, _, by omega, by go_num, by rw [← hwz]; first | rfl | (rw [World.drewN_drewN])⟩
      case measure => simp [intOf]; omega
    · have hi1 : (n : Int) ≤ (k : Int) := by omega
      go_wp2
      go_ret
      exact ⟨rfl, _, rfl⟩
end Go.Proofs.Ytpnfdmglhonkmaa
