/- sink.New, count, Told. -/
import Derived.Test.YtpnfdmglhonkmaaSnk
set_option maxRecDepth 100000
namespace Go.Proofs.Ytpnfdmglhonkmaa
open Go.RowKit Go.Maps

theorem zero_art (w : World) : (zeroValue 49).run Try.prog w = .ok (.agg #[.int .i64 0, .int .i64 0, .slice none 0 0]) w := by kernel_rfl

theorem snkNew_any (w : World) :
    Calls Try.prog 6 #[] w fun e w' => ∃ bm g, e = .returned (.pointer (some ⟨g, 0, none⟩)) ∧ SnkAt w' g bm (.slice none 0 0) Snk.none ∧ Below w.heap.size w w' ∧ w.heap.size ≤ g ∧ w.heap.size ≤ bm := by
  have hmm := @run_makeMap Try.prog
  go_enter Try.func6, Try.ntmps6
  go_wp2
  go_ret
  refine ⟨w.heap.size, w.heap.size + 1, rfl, ⟨?_, ⟨fun _ => none, ?_, fun j => rfl⟩, World.ownsRow_nil _ _ _ _, Snk.fit_none, by simp [Snk.none]⟩, ?_, Nat.le_succ _, Nat.le_refl _⟩
  · exact Cells.newAt _ _ _ _ (by simp)
  · exact (MapAt.made w Try.prog 3).kept (World.grownBy_alloc _ _ none) (by simp)
  · exact ((Below.refl _ _).alloc (Nat.le_refl _) _).alloc (by simp) _

set_option maxHeartbeats 1000000 in
theorem snkCount_any {g bm : Nat} {nv : Value} {s : Snk} (w : World) (h : SnkAt w g bm nv s) (job badge : Int) (hj : (Lit.int .i64 job).wf = true) :
    Calls Try.prog 15 #[.pointer (some ⟨g, 0, none⟩), .int .i64 job, .int .i64 badge] w fun e w' => e = .returned (.int .i64 (s.count job badge)) ∧ Below w.heap.size w w' := by
  obtain ⟨f, hm, ha⟩ := h.map
  have hl := (hm.look Try.underlying3 Try.underlying55 (zero_art w) hj).2
  have c0 := h.cells.cell (j := 0) rfl
  have haj := ha job
  have hfit := h.fit
  have HE : Hid (s.count job badge = s.count job badge) := Lib.hid rfl
  cases hs : s.art job with
  | none =>
    rw [hs] at haj
    simp only at haj
    rw [haj] at hl
    simp only [Option.getD_none, Option.isSome_none] at hl
    have hc : s.count job badge = 0 := by unfold Snk.count; rw [hs]
    rw [hc]
    clear ha hm h haj hfit hs HE hc
    go_enter Try.func15, Try.ntmps15
    go_wp2
    go_ret
    exact ⟨rfl, (Below.refl _ _).alloc (Nat.le_refl _) _⟩
  | some a =>
    rw [hs] at haj
    obtain ⟨sl, h1, h2, _⟩ := haj
    rw [h1] at hl
    simp only [Option.getD_some, Option.isSome_some] at hl
    have hp := hfit.pieces job a hs
    by_cases hb : a.badge = badge
    · have hc : s.count job badge = 1 + a.pieces.length := by unfold Snk.count; rw [hs]; exact if_pos hb
      rw [hc]
      have t1 : (a.badge == badge) = true := by rw [beq_iff_eq]; exact hb
      obtain ⟨A0, cap, rfl⟩ : ∃ A0 cap, sl = .slice A0 a.pieces.length cap := by
        rcases own_shape h2 with ⟨rfl, hn⟩ | ⟨k, cap, rfl, _⟩
        · exact ⟨none, 0, by rw [hn]⟩
        · exact ⟨_, cap, rfl⟩
      have hw : IntKind.i64.wrap (1 + (a.pieces.length : Int)) = 1 + (a.pieces.length : Int) := IntWalk.i64_in _ (by omega)
      have hcast : ((1 + a.pieces.length : Nat) : Int) = 1 + (a.pieces.length : Int) := by omega
      rw [hcast]
      generalize a.pieces.length = n at hl hp hw
      generalize a.badge = ab at hl t1
      clear ha hm h h1 h2 hfit hs HE hc hb
      go_enter Try.func15, Try.ntmps15
      go_wp2
      go_ret
      exact ⟨rfl, (Below.refl _ _).alloc (Nat.le_refl _) _⟩
    · have hc : s.count job badge = 0 := by unfold Snk.count; rw [hs]; exact if_neg hb
      rw [hc]
      have t1 : (a.badge == badge) = false := by rw [beq_eq_false_iff_ne]; exact hb
      have h3 : sl.oneCell' = true := by
        rcases own_shape h2 with ⟨rfl, _⟩ | ⟨k, cap, rfl, _⟩ <;> rfl
      generalize a.badge = ab at hl t1
      clear ha hm h h1 hfit hs HE hc hb
      rcases own_shape h2 with ⟨rfl, hn⟩ | ⟨k, cap, rfl, _⟩
      all_goals
        clear h2
        go_enter Try.func15, Try.ntmps15
        go_wp2
        go_ret
        exact ⟨rfl, (Below.refl _ _).alloc (Nat.le_refl _) _⟩

theorem told_end {w : World} {g bm : Nat} {nv : Value} {s : Snk} (h : SnkAt w g bm nv s) (hT : Turns [g] w (w.setCell ⟨g, 1, none⟩ (.slice none 0 0))) :
    Ending.returned nv = Ending.returned nv ∧ SnkAt (w.setCell ⟨g, 1, none⟩ (.slice none 0 0)) g bm (.slice none 0 0) { s with news := [] } ∧ Evts (w.setCell ⟨g, 1, none⟩ (.slice none 0 0)) nv s.news ∧ w.grownBy (w.setCell ⟨g, 1, none⟩ (.slice none 0 0)) (some g) := by
  obtain ⟨f, hm, ha⟩ := h.map
  have hS : ∀ x ∈ [g], ∀ c fr, w.heap[x]? ≠ some (.cells c 9 fr) := fun x hx => h.noText x (by
    simp at hx
    subst hx
    simp [ownBlocks])
  have hgm : bm ∉ [g] := by
    obtain ⟨es, n, hmb⟩ := hm.isMap
    have := block_ne_map h.cells hmb
    simp
    omega
  have hc := Cells.set h.cells 1 (.slice none 0 0)
  refine ⟨rfl, ⟨hc, ⟨f, hm.block (hT.block bm hm.lt hgm), ha.turns hT hS⟩, World.ownsRow_nil _ _ _ _, ⟨h.fit.job, h.fit.badge, h.fit.pieces⟩, fun k hk => Nat.lt_of_lt_of_le (h.far k hk) hT.size⟩, ?_, hT.only⟩
  refine h.news.kept hT.only ?_
  cases hk : nv.ownBlock with
  | none => exact .inl rfl
  | some k =>
    obtain ⟨cur, hcur⟩ := own_block_type h.news hk
    have := block_ne hcur h.cells (by decide)
    exact .inr (by simpa using this)

theorem snkTold_any {g bm : Nat} {nv : Value} {s : Snk} (w : World) (h : SnkAt w g bm nv s) :
    Calls Try.prog 10 #[.pointer (some ⟨g, 0, none⟩)] w fun e w' => e = .returned nv ∧ SnkAt w' g bm (.slice none 0 0) { s with news := [] } ∧ Evts w' nv s.news ∧ w.grownBy w' (some g) := by
  have c1 := h.cells.cell (j := 1) rfl
  have f1 := h.cells.fz 1
  obtain ⟨f, hm, ha⟩ := h.map
  have HH := Lib.hid h
  clear h
  have hone : nv.oneCell' = true := by
    rcases own_shape HH.out.news with ⟨rfl, _⟩ | ⟨k, cap, rfl, _⟩ <;> rfl
  have hT : Turns [g] w (w.setCell ⟨g, 1, none⟩ (.slice none 0 0)) := (Turns.refl _ _).set (.inl (by simp)) _
  have HT := Lib.hid hT
  clear hT
  rcases own_shape HH.out.news with ⟨rfl, hn⟩ | ⟨k, cap, rfl, _⟩
  all_goals
    go_enter Try.func10, Try.ntmps10
    go_wp2
    go_ret
    exact told_end HH.out HT.out
end Go.Proofs.Ytpnfdmglhonkmaa
