/- (*sink.Sink).Put. -/
import Derived.StillTailTactics
import Derived.Deep.DeepCutAuto
import Derived.Test.YtpnfdmglhonkmaaSnkCount
import Derived.Test.YtpnfdmglhonkmaaStrsLib
set_option maxRecDepth 100000
namespace Go.Proofs.Ytpnfdmglhonkmaa
open Go.RowKit Go.Maps

theorem field_badge (x y : Int) (z : Value) (w : World) : (Instr.field 49 (.agg #[.int .i64 x, .int .i64 y, z]) 1).run Try.prog w = .ok (.int .i64 y) w := by kernel_rfl

theorem info_evt : ∃ i, Try.prog.info? 45 = some i ∧ i.zero = some (.agg #[.int .i64 0, .int .i64 0, .int .i64 0, .int .i64 0, .int .i64 0, .int .i64 0, .int .i64 0, .int .i64 0, .int .i64 0, .int .i64 0, .int .u64 0, .string ⟨#[]⟩, .slice none 0 0]) ∧ i.size = 13 ∧ i.bytes = 128 := info_split (by kernel_rfl)

/-- what the sink's map answers at a job -/
theorem art_look {w : World} {s : Snk} {f : Int → Option Value} (ha : Arts w s.art s.far f) (job : Int) :
    ∃ jj sl, (f job).getD (.agg #[.int .i64 0, .int .i64 0, .slice none 0 0]) = .agg #[.int .i64 jj, .int .i64 (s.badge job), sl] ∧ Strs w sl (s.pieces job) ∧ (s.art job ≠ none → jj = job) := by
  have hj := ha job
  unfold Snk.badge Snk.pieces
  cases hs : s.art job with
  | none =>
    rw [hs] at hj
    simp only at hj
    rw [hj]
    exact ⟨0, _, rfl, World.ownsRow_nil _ _ _ _, fun h => absurd rfl h⟩
  | some a =>
    rw [hs] at hj
    obtain ⟨sl, h1, h2, _⟩ := hj
    rw [h1]
    exact ⟨job, sl, rfl, h2, fun _ => rfl⟩

def PutPost (g bm : Nat) (nv : Value) (s : Snk) (job badge index : Int) (text : ByteArray) (w : World) (e : Ending) (w' : World) : Prop :=
  e = .returned (.tuple #[.int .i64 (s.said job badge index text), .bool (s.new job badge index text), .int .i64 (s.err job badge index text)]) ∧
    ∃ nv', SnkAt w' g bm nv' (s.put job badge index text) ∧ (nv'.ownBlock = nv.ownBlock ∨ ∃ k, nv'.ownBlock = some k ∧ w.heap.size ≤ k) ∧ Turns (ownBlocks g bm nv) w w'

theorem put_same {g bm : Nat} {nv : Value} {s : Snk} {job badge index : Int} {text : ByteArray} {w w' : World} (h : SnkAt w g bm nv s) (hb : Below w.heap.size w w') (hn : s.new job badge index text = false) :
    ∃ nv', SnkAt w' g bm nv' (s.put job badge index text) ∧ (nv'.ownBlock = nv.ownBlock ∨ ∃ k, nv'.ownBlock = some k ∧ w.heap.size ≤ k) ∧ Turns (ownBlocks g bm nv) w w' := by
  refine ⟨nv, ?_, .inl rfl, Turns.of_below hb⟩
  have : s.put job badge index text = s := by unfold Snk.put; rw [hn]; rfl
  rw [this]
  exact h.below hb

/-- what stands ahead of the map's store -/
structure TailAt (w W : World) (g bm : Nat) (nv : Value) (s : Snk) (f : Int → Option Value) (A1 : Nat) (job badge : Int) (A0 : Option Addr) (n cap : Nat) (l : List ByteArray) : Prop where
  below : Below w.heap.size w W
  snk : SnkAt W g bm nv s
  map : MapAt Try.prog 3 W bm f
  arts : Arts W s.art s.far f
  cells : Cells W A1 49 #[.int .i64 job, .int .i64 badge, .slice A0 n cap]
  strs : Strs W (.slice A0 n cap) l
  farA : ∀ k ∈ s.far, (Value.slice A0 n cap).ownBlock ≠ some k

theorem TailAt.drew {w W : World} {g bm : Nat} {nv : Value} {s : Snk} {f : Int → Option Value} {A1 : Nat} {job badge : Int} {A0 : Option Addr} {n cap : Nat} {l : List ByteArray} (h : TailAt w W g bm nv s f A1 job badge A0 n cap l) : TailAt w W.drew g bm nv s f A1 job badge A0 n cap l :=
  ⟨h.below.drew, ⟨h.snk.cells, h.snk.map, h.snk.news, h.snk.fit, h.snk.far⟩, h.map, h.arts, h.cells, h.strs, h.farA⟩

theorem TailAt.of_below {w W : World} {g bm : Nat} {nv : Value} {s : Snk} {f : Int → Option Value} {A1 : Nat} {job badge : Int} {A0 : Option Addr} {n cap : Nat} {l : List ByteArray} (h : SnkAt w g bm nv s) (hm : MapAt Try.prog 3 w bm f) (ha : Arts w s.art s.far f) (hb : Below w.heap.size w W)
    (hc : Cells W A1 49 #[.int .i64 job, .int .i64 badge, .slice A0 n cap]) (hs : Strs W (.slice A0 n cap) l) (hk : ∀ k, (Value.slice A0 n cap).ownBlock = some k → w.heap.size ≤ k) : TailAt w W g bm nv s f A1 job badge A0 n cap l :=
  ⟨hb, h.below hb, hm.block (hb.block bm hm.lt), ha.turns (Turns.of_below (S := []) hb) (by simp), hc, hs, fun k hf e => by have := hk k e; have := h.far k hf; omega⟩

/-- what the map's store leaves -/
structure Tail3 (W2 W3 : World) (g bm : Nat) (nv : Value) (f : Int → Option Value) (job : Int) (v : Value) : Prop where
  map : MapAt Try.prog 3 W3 bm (fun i => if i = job then some v else f i)
  grown : W2.grownBy W3 (some bm)
  size : W3.heap.size = W2.heap.size
  cells : Cells W3 g 57 #[.map (some bm), nv]

theorem tail_store {w W2 : World} {g bm : Nat} {nv : Value} {s : Snk} {f : Int → Option Value} {A1 : Nat} {job badge : Int} {A0 : Option Addr} {n cap : Nat} {l : List ByteArray} (h : TailAt w W2 g bm nv s f A1 job badge A0 n cap l) (hj : (Lit.int .i64 job).wf = true) :
    ∃ W3, (Instr.mapUpdate 55 (.map (some bm)) (.int .i64 job) (.agg #[.int .i64 job, .int .i64 badge, .slice A0 n cap])).run Try.prog W2 = .ok () W3 ∧ Tail3 W2 W3 g bm nv f job (.agg #[.int .i64 job, .int .i64 badge, .slice A0 n cap]) := by
  have hf : ∀ j v, f j = some v → 1 ≤ j ∧ j ≤ 8 := by
    intro j v hv
    have hj := h.arts j
    cases ha : s.art j with
    | none =>
      rw [ha] at hj
      simp only at hj
      rw [hj] at hv
      cases hv
    | some a => exact h.snk.fit.job j a ha
  obtain ⟨W3, hrun, hm, hg, hs⟩ := h.map.store Try.underlying3 Try.underlying55 hf hj (.agg #[.int .i64 job, .int .i64 badge, .slice A0 n cap])
  refine ⟨W3, hrun, hm, hg, hs, h.snk.cells.grown hg ?_⟩
  obtain ⟨es, k, hmb⟩ := h.map.isMap
  have := block_ne_map h.snk.cells hmb
  simpa using this

theorem tail_keep {W2 W3 W4 : World} {g bm : Nat} {nv : Value} {s : Snk} {f : Int → Option Value} {job : Int} {v : Value} (hs : SnkAt W2 g bm nv s) (h : Tail3 W2 W3 g bm nv f job v) (hg : W3.grownBy W4 nv.ownBlock) : Cells W4 g 57 #[.map (some bm), nv] := by
  refine h.cells.grown hg ?_
  cases hk : nv.ownBlock with
  | none => simp
  | some k =>
    obtain ⟨cur, hcur⟩ := own_block_type hs.news hk
    have := block_ne hs.cells hcur (by decide)
    simpa using this

theorem tail_ne {w W2 : World} {g bm : Nat} {nv : Value} {s : Snk} {f : Int → Option Value} {A1 : Nat} {job badge : Int} {A0 : Option Addr} {n cap : Nat} {l : List ByteArray} (h : TailAt w W2 g bm nv s f A1 job badge A0 n cap l) : nv.ownBlock = none ∨ nv.ownBlock ≠ some bm := by
  cases hk : nv.ownBlock with
  | none => exact .inl rfl
  | some k =>
    obtain ⟨cur, hcur⟩ := own_block_type h.snk.news hk
    obtain ⟨es, c, hmb⟩ := h.map.isMap
    have := block_ne_map hcur hmb
    exact .inr (by simpa using this)

theorem own_none (v : Value) : v.ownBlock = none ∨ v.ownBlock ≠ none := by
  cases v.ownBlock <;> simp

theorem evt_one (e : Evt) : ∀ u ∈ (Evt.cells e).toArray.toList, u.oneCell' = true := by
  intro u hu
  simp [Evt.cells] at hu
  rcases hu with rfl | rfl | rfl | rfl | rfl | rfl | rfl | rfl | rfl <;> rfl

theorem own_some {w : World} {base : Nat} {e : TypeId} {size : Nat} {v : Value} {n : Nat} {xs : List Value} (h : w.ownsRow base e size v (n + 1) xs) : ∃ k cap, v = .slice (some ⟨k, 0, none⟩) (n + 1) cap := by
  rcases own_shape h with ⟨_, hn⟩ | ⟨k, cap, rfl, _⟩
  · cases hn
  · exact ⟨k, cap, rfl⟩

theorem tail_row {w W0 W' : World} {g bm : Nat} {nv : Value} {s : Snk} {f : Int → Option Value} {A1 : Nat} {job badge : Int} {A0 : Option Addr} {n0 cap0 k' cap' n : Nat} {l : List ByteArray} {text : ByteArray} (h : SnkAt w g bm nv s) (hm : MapAt Try.prog 3 w bm f) (ha : Arts w s.art s.far f) (hb : Below w.heap.size w W')
    (hc : Cells W' A1 49 #[.int .i64 job, .int .i64 badge, .slice A0 n0 cap0]) (hA : w.heap.size ≤ A1 ∧ A1 < W0.heap.size) (ho : W'.ownsRow W0.heap.size 9 1 (.slice (some ⟨k', 0, none⟩) (n + 1) cap') (l.length + 1) (l.map Value.string ++ #[Value.string text].toList)) :
    TailAt w (W'.setCell ⟨A1, 2, none⟩ (.slice (some ⟨k', 0, none⟩) (n + 1) cap')) g bm nv s f A1 job badge (some ⟨k', 0, none⟩) (n + 1) cap' (l ++ [text]) := by
  have hk := (ho.lt k' rfl).1
  refine TailAt.of_below h hm ha (hb.setCell hA.1 _) (Cells.set hc 2 _) ?_ (fun k e => by simp [Value.ownBlock] at e; omega)
  have h2 := ho.kept (row := some A1) (w' := W'.setCell ⟨A1, 2, none⟩ (.slice (some ⟨k', 0, none⟩) (n + 1) cap')) (only_set (only_refl _ _) (.inl rfl) _) (.inr (by simp [Value.ownBlock]; omega))
  unfold Strs
  have h3 := h2.mono (base' := 0) (Nat.zero_le _)
  simpa using h3

theorem put_end {w W2 W3 W4 : World} {g bm : Nat} {nv v' : Value} {s : Snk} {f : Int → Option Value} {A1 : Nat} {job badge index : Int} {text : ByteArray} {A0 : Option Addr} {n cap : Nat} (h : TailAt w W2 g bm nv s f A1 job badge A0 n cap (if index = 0 then [] else s.pieces job ++ [text]))
    (h3 : Tail3 W2 W3 g bm nv f job (.agg #[.int .i64 job, .int .i64 badge, .slice A0 n cap])) (ho : W4.ownsRow 0 45 13 v' (s.news.length + 1) (s.news.flatMap Evt.cells ++ Evt.cells ⟨job, badge, index, text⟩)) (hg : W3.grownBy W4 nv.ownBlock)
    (hat : v'.ownBlock = nv.ownBlock ∨ ∃ k, v'.ownBlock = some k ∧ W3.heap.size ≤ k) (hn : s.new job badge index text = true) :
    ∃ nv', SnkAt (W4.setCell ⟨g, 1, none⟩ v') g bm nv' (s.put job badge index text) ∧ (nv'.ownBlock = nv.ownBlock ∨ ∃ k, nv'.ownBlock = some k ∧ w.heap.size ≤ k) ∧ Turns (ownBlocks g bm nv) w (W4.setCell ⟨g, 1, none⟩ v') := by
  have hput : s.put job badge index text = s.takeIn job badge index text := by unfold Snk.put; rw [hn]; rfl
  have hfit := h.snk.fit.put job badge index text
  rw [hput] at hfit ⊢
  have hc4 := tail_keep h.snk h3 hg
  have hT23 : Turns (ownBlocks g bm nv) W2 W3 := (Turns.of_only h3.grown).mono fun x hx => .inl (by simp at hx; subst hx; simp [ownBlocks])
  have hT34 : Turns (ownBlocks g bm nv) W3 W4 := ⟨hg.os, hg.tape, hg.output, hg.size, fun k hk hn => hg.block k hk (fun e => hn (by simp [ownBlocks, ← e]))⟩
  have hT45 : Turns (ownBlocks g bm nv) W4 (W4.setCell ⟨g, 1, none⟩ v') := (Turns.refl _ _).set (.inl (by simp [ownBlocks])) _
  have hT25 := (hT23.trans hT34).trans hT45
  have hgb : bm ≠ g := by
    obtain ⟨es, k, hmb⟩ := h.map.isMap
    exact (block_ne_map h.snk.cells hmb).symm
  have hbn : ∀ k, nv.ownBlock = some k → k ≠ bm := by
    intro k hk
    obtain ⟨cur, hcur⟩ := own_block_type h.snk.news hk
    obtain ⟨es, k2, hmb⟩ := h.map.isMap
    exact block_ne_map hcur hmb
  have hblt := h.map.lt
  have hglt := h.snk.cells.lt
  have hgv : v'.ownBlock ≠ some g := by
    rcases hat with hat | ⟨k, hk, hk2⟩
    · rw [hat]
      intro he
      obtain ⟨cur, hcur⟩ := own_block_type h.snk.news he
      exact block_ne hcur h.snk.cells (by decide) rfl
    · rw [hk]
      intro he
      injection he with he
      have := h3.size
      omega
  refine ⟨v', ⟨?_, ⟨fun i => if i = job then some (.agg #[.int .i64 job, .int .i64 badge, .slice A0 n cap]) else f i, ?_, ?_⟩, ?_, hfit, fun k hk => Nat.lt_of_lt_of_le (h.snk.far k hk) hT25.size⟩, ?_, ?_⟩
  · exact Cells.set hc4 1 v'
  · refine MapAt.block (h3.map) ?_
    exact (Below.heap_setCell W4 _ _ bm hgb).trans (hg.block bm (by have := h3.size; omega) fun e => hbn _ e.symm rfl)
  · intro j
    simp only [Snk.takeIn]
    by_cases e1 : j = job
    · subst e1
      simp only [if_true]
      exact ⟨_, rfl, h.strs.turns hT25 h.snk.noText, h.farA⟩
    · simp only [if_neg e1]
      exact h.arts.turns hT25 h.snk.noText j
  · have hk := ho.kept (row := some g) (w' := W4.setCell ⟨g, 1, none⟩ v') (only_set (only_refl _ _) (.inl rfl) _) (by
      cases hv : v'.ownBlock with
      | none => exact .inl rfl
      | some k => exact .inr (fun e => hgv (hv.trans e)))
    unfold Evts
    simpa [Snk.takeIn] using hk
  · rcases hat with hat | ⟨k, hk, hk2⟩
    · exact .inl hat
    · exact .inr ⟨k, hk, by have := h3.size; have := h.below.size; omega⟩
  · exact (Turns.of_below h.below).trans hT25

set_option maxHeartbeats 8000000 in
theorem snkPut_any {g bm : Nat} {nv : Value} {s : Snk} (w : World) (h : SnkAt w g bm nv s) (job badge index : Int) (text : ByteArray) (hj : (Lit.int .i64 job).wf = true) (hnw : s.news.length < 1073741824) (htx : text.size < 4611686018427387904) :
    Calls Try.prog 9 #[.pointer (some ⟨g, 0, none⟩), .int .i64 job, .int .i64 badge, .int .i64 index, .string text] w (PutPost g bm nv s job badge index text w) := by
  have hfb := field_badge
  have HC := Lib.hid (snkCount_any w h job badge hj)
  have HH := Lib.hid h
  have HJ := Lib.hid hj
  have HN := Lib.hid hnw
  obtain ⟨f, hm, ha⟩ := h.map
  obtain ⟨jj, sl, hsl, hst, hjj⟩ := art_look ha job
  obtain ⟨A0, n0, cap0, rfl, hn0⟩ : ∃ A0 n0 cap0, sl = .slice A0 n0 cap0 ∧ n0 = (s.pieces job).length := by
    rcases own_shape hst with ⟨rfl, hn⟩ | ⟨k, cap, rfl, _⟩
    · exact ⟨none, 0, 0, rfl, hn.symm⟩
    · exact ⟨_, _, cap, rfl, rfl⟩
  have HN0 := Lib.hid hn0
  clear hn0
  have hcb := h.fit.count job badge
  -- in each world that has what w has
  have HW := Lib.hid fun (w1 : World) (hb : Below w.heap.size w w1) => (show (Instr.lookup 55 (.map (some bm)) (.int .i64 job) false).run Try.prog w1 = .ok (.agg #[.int .i64 jj, .int .i64 (s.badge job), .slice A0 n0 cap0]) w1 ∧ w1.cell? ⟨g, 0, none⟩ = some (.map (some bm)) ∧ w1.cell? ⟨g, 1, none⟩ = some nv ∧ w1.frozen? ⟨g, 1, none⟩ = false from by
    have h1 := (hm.block (hb.block bm hm.lt)).look Try.underlying3 Try.underlying55 (zero_art w1) hj
    rw [hsl] at h1
    have hc := h.cells.keep hb
    exact ⟨h1.1, hc.cell rfl, hc.cell rfl, hc.fz 1⟩)
  have HS := Lib.hid hst
  have HF := Lib.hid hm
  have HA := Lib.hid ha
  have HT := Lib.hid htx
  clear hst hm ha h hj hnw
  unfold PutPost
  generalize hsb : s.badge job = sb at *
  generalize hct : s.count job badge = ct at *
  have hsd : s.said job badge index text = if s.err job badge index text = 0 then (if s.new job badge index text = true then (ct : Int) + 1 else ct) else 0 := by unfold Snk.said; rw [hct]
  have hnew : s.new job badge index text = decide (s.err job badge index text = 0 ∧ ¬ index < (ct : Int)) := by unfold Snk.new; rw [hct]
  have herr : s.err job badge index text = if job < 1 ∨ 8 < job then 160 else if 32 < text.size ∨ (index = 0 ∧ text ≠ ⟨#[]⟩) then 163 else if badge < 1 ∨ 1099511627776 < badge ∨ badge < sb then 161 else if index < 0 ∨ 16 < index ∨ (ct : Int) < index then 162 else 0 := by unfold Snk.err; rw [hsb, hct]
  by_cases j1 : job < 1
  · have herr : s.err job badge index text = 160 := by rw [herr, if_pos (.inl j1)]
    rw [herr] at hsd hnew
    have t1 : decide (job < 1) = true := decide_eq_true j1
    rw [if_neg (show ¬ (160 : Int) = 0 by decide)] at hsd
    have hnf : s.new job badge index text = false := by rw [hnew]; exact decide_eq_false (by omega)
    rw [hsd, hnf, herr]
    have HNF := Lib.hid hnf
    clear hsd hnf herr hnew hsl hjj
    go_enter Try.func9, Try.ntmps9
    go_wp2_with fail
    refine HC.out.mono ?_
    rintro x w1 ⟨rfl, hb1⟩
    obtain ⟨hl, c0, c1, f1⟩ := HW.out w1 hb1
    have HB := Lib.hid hb1
    clear hb1
    go_wp2
    go_ret3
    exact ⟨rfl, put_same HH.out HB.out HNF.out⟩
  have t1 : decide (job < 1) = false := decide_eq_false j1
  by_cases j8 : 8 < job
  · have herr : s.err job badge index text = 160 := by rw [herr, if_pos (.inr j8)]
    rw [herr] at hsd hnew
    have t2 : decide (8 < job) = true := decide_eq_true j8
    rw [if_neg (show ¬ (160 : Int) = 0 by decide)] at hsd
    have hnf : s.new job badge index text = false := by rw [hnew]; exact decide_eq_false (by omega)
    rw [hsd, hnf, herr]
    have HNF := Lib.hid hnf
    clear hsd hnf herr hnew hsl hjj
    go_enter Try.func9, Try.ntmps9
    go_wp2_with fail
    refine HC.out.mono ?_
    rintro x w1 ⟨rfl, hb1⟩
    obtain ⟨hl, c0, c1, f1⟩ := HW.out w1 hb1
    have HB := Lib.hid hb1
    clear hb1
    go_wp2
    go_ret3
    exact ⟨rfl, put_same HH.out HB.out HNF.out⟩
  have t2 : decide (8 < job) = false := decide_eq_false j8
  rw [if_neg (by omega : ¬ (job < 1 ∨ 8 < job))] at herr
  by_cases x1 : 32 < text.size
  · have herr : s.err job badge index text = 163 := by rw [herr, if_pos (.inl x1)]
    rw [herr] at hsd hnew
    have t3 : decide ((32 : Int) < (text.size : Int)) = true := decide_eq_true (by omega)
    have t3' : decide (32 < text.size) = true := decide_eq_true x1
    rw [if_neg (show ¬ (163 : Int) = 0 by decide)] at hsd
    have hnf : s.new job badge index text = false := by rw [hnew]; exact decide_eq_false (by omega)
    rw [hsd, hnf, herr]
    have HNF := Lib.hid hnf
    clear hsd hnf herr hnew hsl hjj
    go_enter Try.func9, Try.ntmps9
    go_wp2_with fail
    refine HC.out.mono ?_
    rintro x w1 ⟨rfl, hb1⟩
    obtain ⟨hl, c0, c1, f1⟩ := HW.out w1 hb1
    have HB := Lib.hid hb1
    clear hb1
    go_wp2
    go_ret3
    exact ⟨rfl, put_same HH.out HB.out HNF.out⟩
  have t3 : decide ((32 : Int) < (text.size : Int)) = false := decide_eq_false (by omega)
  have t3' : decide (32 < text.size) = false := decide_eq_false x1
  by_cases x2 : index = 0 ∧ text ≠ ⟨#[]⟩
  · have herr : s.err job badge index text = 163 := by rw [herr, if_pos (.inr x2)]
    rw [herr] at hsd hnew
    have t4 : (index == 0) = true := by rw [beq_iff_eq]; exact x2.1
    have t5' : ¬ text.toList = [] := fun e => x2.2 (by
      apply ByteArray.ext
      apply Array.toList_inj.1
      rw [ByteArray.toList_eq] at e
      exact e)
    have t5 : text.toList.isEmpty = false := by simpa using t5'
    have t6 : (text.toList == []) = false := by simpa using t5'
    clear x2 t5'
    rw [if_neg (show ¬ (163 : Int) = 0 by decide)] at hsd
    have hnf : s.new job badge index text = false := by rw [hnew]; exact decide_eq_false (by omega)
    rw [hsd, hnf, herr]
    have HNF := Lib.hid hnf
    clear hsd hnf herr hnew hsl hjj
    go_enter Try.func9, Try.ntmps9
    go_wp2_with fail
    refine HC.out.mono ?_
    rintro x w1 ⟨rfl, hb1⟩
    obtain ⟨hl, c0, c1, f1⟩ := HW.out w1 hb1
    have HB := Lib.hid hb1
    clear hb1
    go_wp2
    go_ret3
    exact ⟨rfl, put_same HH.out HB.out HNF.out⟩
  rw [if_neg (by rintro (h | h); exact x1 h; exact x2 h)] at herr
  have hx : (index == 0) = false ∨ ((index == 0) = true ∧ text.toList = []) := by
    by_cases h0 : index = 0
    · right
      refine ⟨by rw [beq_iff_eq]; exact h0, ?_⟩
      have : text = ⟨#[]⟩ := Classical.byContradiction fun h => x2 ⟨h0, h⟩
      rw [this]
      simp
    · left
      rw [beq_eq_false_iff_ne]
      exact h0
  have HX2 := Lib.hid x2
  clear x2
  rcases hx with t4 | ⟨t4, t5'⟩
  · by_cases b1 : badge < 1
    · have herr : s.err job badge index text = 161 := by rw [herr, if_pos (.inl b1)]
      rw [herr] at hsd hnew
      have u0 : decide (badge < 1) = true := decide_eq_true b1
      rw [if_neg (show ¬ (161 : Int) = 0 by decide)] at hsd
      have hnf : s.new job badge index text = false := by rw [hnew]; exact decide_eq_false (by omega)
      rw [hsd, hnf, herr]
      have HNF := Lib.hid hnf
      clear hsd hnf herr hnew hsl hjj
      go_enter Try.func9, Try.ntmps9
      go_wp2_with fail
      refine HC.out.mono ?_
      rintro x w1 ⟨rfl, hb1⟩
      obtain ⟨hl, c0, c1, f1⟩ := HW.out w1 hb1
      have HB := Lib.hid hb1
      clear hb1
      go_wp2
      go_ret3
      exact ⟨rfl, put_same HH.out HB.out HNF.out⟩
    have u0 : decide (badge < 1) = false := decide_eq_false b1
    by_cases b2 : 1099511627776 < badge
    · have herr : s.err job badge index text = 161 := by rw [herr, if_pos (.inr (.inl b2))]
      rw [herr] at hsd hnew
      have u1 : decide (1099511627776 < badge) = true := decide_eq_true b2
      rw [if_neg (show ¬ (161 : Int) = 0 by decide)] at hsd
      have hnf : s.new job badge index text = false := by rw [hnew]; exact decide_eq_false (by omega)
      rw [hsd, hnf, herr]
      have HNF := Lib.hid hnf
      clear hsd hnf herr hnew hsl hjj
      go_enter Try.func9, Try.ntmps9
      go_wp2_with fail
      refine HC.out.mono ?_
      rintro x w1 ⟨rfl, hb1⟩
      obtain ⟨hl, c0, c1, f1⟩ := HW.out w1 hb1
      have HB := Lib.hid hb1
      clear hb1
      go_wp2
      go_ret3
      exact ⟨rfl, put_same HH.out HB.out HNF.out⟩
    have u1 : decide (1099511627776 < badge) = false := decide_eq_false b2
    by_cases b3 : badge < sb
    · have herr : s.err job badge index text = 161 := by rw [herr, if_pos (.inr (.inr b3))]
      rw [herr] at hsd hnew
      have u2 : decide (badge < sb) = true := decide_eq_true b3
      rw [if_neg (show ¬ (161 : Int) = 0 by decide)] at hsd
      have hnf : s.new job badge index text = false := by rw [hnew]; exact decide_eq_false (by omega)
      rw [hsd, hnf, herr]
      have HNF := Lib.hid hnf
      clear hsd hnf herr hnew hsl hjj
      go_enter Try.func9, Try.ntmps9
      go_wp2_with fail
      refine HC.out.mono ?_
      rintro x w1 ⟨rfl, hb1⟩
      obtain ⟨hl, c0, c1, f1⟩ := HW.out w1 hb1
      have HB := Lib.hid hb1
      clear hb1
      go_wp2
      go_ret3
      exact ⟨rfl, put_same HH.out HB.out HNF.out⟩
    have u2 : decide (badge < sb) = false := decide_eq_false b3
    rw [if_neg (by omega : ¬ (badge < 1 ∨ 1099511627776 < badge ∨ badge < sb))] at herr
    by_cases i1 : index < 0
    · have herr : s.err job badge index text = 162 := by rw [herr, if_pos (.inl i1)]
      rw [herr] at hsd hnew
      have y0 : decide (index < 0) = true := decide_eq_true i1
      rw [if_neg (show ¬ (162 : Int) = 0 by decide)] at hsd
      have hnf : s.new job badge index text = false := by rw [hnew]; exact decide_eq_false (by omega)
      rw [hsd, hnf, herr]
      have HNF := Lib.hid hnf
      clear hsd hnf herr hnew hsl hjj
      go_enter Try.func9, Try.ntmps9
      go_wp2_with fail
      refine HC.out.mono ?_
      rintro x w1 ⟨rfl, hb1⟩
      obtain ⟨hl, c0, c1, f1⟩ := HW.out w1 hb1
      have HB := Lib.hid hb1
      clear hb1
      go_wp2
      go_ret3
      exact ⟨rfl, put_same HH.out HB.out HNF.out⟩
    have y0 : decide (index < 0) = false := decide_eq_false i1
    by_cases i2 : 16 < index
    · have herr : s.err job badge index text = 162 := by rw [herr, if_pos (.inr (.inl i2))]
      rw [herr] at hsd hnew
      have y1 : decide (16 < index) = true := decide_eq_true i2
      rw [if_neg (show ¬ (162 : Int) = 0 by decide)] at hsd
      have hnf : s.new job badge index text = false := by rw [hnew]; exact decide_eq_false (by omega)
      rw [hsd, hnf, herr]
      have HNF := Lib.hid hnf
      clear hsd hnf herr hnew hsl hjj
      go_enter Try.func9, Try.ntmps9
      go_wp2_with fail
      refine HC.out.mono ?_
      rintro x w1 ⟨rfl, hb1⟩
      obtain ⟨hl, c0, c1, f1⟩ := HW.out w1 hb1
      have HB := Lib.hid hb1
      clear hb1
      go_wp2
      go_ret3
      exact ⟨rfl, put_same HH.out HB.out HNF.out⟩
    have y1 : decide (16 < index) = false := decide_eq_false i2
    by_cases i3 : (ct : Int) < index
    · have herr : s.err job badge index text = 162 := by rw [herr, if_pos (.inr (.inr i3))]
      rw [herr] at hsd hnew
      have y2 : decide ((ct : Int) < index) = true := decide_eq_true i3
      rw [if_neg (show ¬ (162 : Int) = 0 by decide)] at hsd
      have hnf : s.new job badge index text = false := by rw [hnew]; exact decide_eq_false (by omega)
      rw [hsd, hnf, herr]
      have HNF := Lib.hid hnf
      clear hsd hnf herr hnew hsl hjj
      go_enter Try.func9, Try.ntmps9
      go_wp2_with fail
      refine HC.out.mono ?_
      rintro x w1 ⟨rfl, hb1⟩
      obtain ⟨hl, c0, c1, f1⟩ := HW.out w1 hb1
      have HB := Lib.hid hb1
      clear hb1
      go_wp2
      go_ret3
      exact ⟨rfl, put_same HH.out HB.out HNF.out⟩
    have y2 : decide ((ct : Int) < index) = false := decide_eq_false i3
    rw [if_neg (by omega : ¬ (index < 0 ∨ 16 < index ∨ (ct : Int) < index))] at herr
    rw [herr] at hsd hnew
    rw [if_pos rfl] at hsd
    by_cases i4 : index < (ct : Int)
    · have hnf : s.new job badge index text = false := by rw [hnew]; exact decide_eq_false (by omega)
      rw [hnf] at hsd
      rw [if_neg (by simp)] at hsd
      rw [hsd, hnf, herr]
      have y4 : decide (index < (ct : Int)) = true := decide_eq_true i4
      have HNF := Lib.hid hnf
      clear hsd hnf herr hnew hsl hjj
      go_enter Try.func9, Try.ntmps9
      go_wp2_with fail
      refine HC.out.mono ?_
      rintro x w1 ⟨rfl, hb1⟩
      obtain ⟨hl, c0, c1, f1⟩ := HW.out w1 hb1
      have HB := Lib.hid hb1
      clear hb1
      go_wp2
      go_ret3
      exact ⟨rfl, put_same HH.out HB.out HNF.out⟩
    have y4 : decide (index < (ct : Int)) = false := decide_eq_false i4
    have hnf : s.new job badge index text = true := by rw [hnew]; exact decide_eq_true (by omega)
    rw [hnf] at hsd
    rw [if_pos rfl] at hsd
    rw [hsd, hnf, herr]
    have hwr : IntKind.i64.wrap ((ct : Int) + 1) = (ct : Int) + 1 := IntWalk.i64_in _ (by omega)
    have HNF := Lib.hid hnf
    have hct0 : s.count job badge ≠ 0 := by
      rw [hct]
      rw [beq_eq_false_iff_ne] at t4
      omega
    have hpl : (s.pieces job).length ≤ 16 := by
      obtain ⟨a, ha1, _⟩ := Snk.pieces_count hct0
      simp only [Snk.pieces, ha1]
      exact HH.out.fit.pieces job a ha1
    obtain ⟨a, ha1, ha2, _⟩ := Snk.pieces_count hct0
    have e1 : badge = sb := by rw [← hsb, ← ha2]; simp only [Snk.badge, ha1]
    have e2 : job = jj := (hjj (by rw [ha1]; simp)).symm
    subst e1
    subst e2
    have HPL := Lib.hid hpl
    clear ha1 ha2 hct0 hpl
    clear hsd hnf herr hnew hsl hjj
    go_enter Try.func9, Try.ntmps9
    go_wp2_with fail
    refine HC.out.mono ?_
    rintro x w1 ⟨rfl, hb1⟩
    obtain ⟨hl, c0, c1, f1⟩ := HW.out w1 hb1
    have HB := Lib.hid hb1
    clear hb1
    go_upto_region 15 with (fail)
    have HC0 := Lib.hid (Cells.new w1 49 #[.int .i64 job, .int .i64 badge, .slice A0 n0 cap0])
    have HB0 := Lib.hid (HB.out.alloc HB.out.size (.cells #[.int .i64 job, .int .i64 badge, .slice A0 n0 cap0] 49))
    have HA1 := Lib.hid (show w.heap.size ≤ w1.heap.size ∧ w1.heap.size < (w1.alloc (.cells #[.int .i64 job, .int .i64 badge, .slice A0 n0 cap0] 49)).heap.size from ⟨HB.out.size, by simp⟩)
    generalize w1.alloc (.cells #[.int .i64 job, .int .i64 badge, .slice A0 n0 cap0] 49) = W0 at *
    generalize w1.heap.size = A1 at *
    have HS0 := Lib.hid (HS.out.kept (only_of_below HB0.out none) (own_none _))
    have a2 := HC0.out.cell (j := 2) rfl
    obtain ⟨i, hi, hz, hsz, hby⟩ := info_strs
    go_wp2_with fail
    refine (strsClip_any W0 HS0.out).mono ?_
    rintro x wz ⟨rfl, rfl⟩
    go_upto_region 16 with (at_builtin; refine wpList_append_clip (w := wz) rfl _ _ _ rfl 9 i _ 1 16 Try.underlying26 hi hz hsz hby rfl (by decide) 0 _ _ _ rfl HS0.out #[.string text] rfl (by simp [Value.oneCell']) rfl (by have := HPL.out; omega) (by decide) ?_; intro v' W' ho hb; have hc' := HC0.out.keep hb; have a2' := hc'.cell (j := 2) rfl; have f2' := hc'.fz 2; clear hc' a2; obtain ⟨k', cap', rfl⟩ := own_some ho)
    have HTL := Lib.hid (tail_row (A1 := A1) HH.out HF.out HA.out (HB0.out.trans (hb.mono HB0.out.size)) (Cells.keep HC0.out hb) HA1.out ho)
    clear a2' f2' ho hb
    generalize W'.setCell ⟨A1, 2, none⟩ (.slice (some ⟨k', 0, none⟩) ((s.pieces job).length + 1) cap') = W at *
    clear hi hz hsz hby
    have d0 := HTL.out.snk.cells.cell (j := 0) rfl
    have a0 := HTL.out.cells.cell (j := 0) rfl
    have a1 := HTL.out.cells.cell (j := 1) rfl
    have a2 := HTL.out.cells.cell (j := 2) rfl
    go_still_tail 6, (by kernel_rfl)
    have HT2 := Lib.hid HTL.out.drew
    clear HTL d0 a0 a1 a2
    change wpList _ _ _ _ _ W.drew
    generalize W.drew = W2 at HT2 ⊢
    obtain ⟨W3, hrun, h3⟩ := tail_store HT2.out HJ.out
    have H3 := Lib.hid h3
    have d1 := h3.cells.cell (j := 1) rfl
    have HNW := Lib.hid (HT2.out.snk.news.kept h3.grown (tail_ne HT2.out))
    clear h3
    obtain ⟨i, hi, hz, hsz, hby⟩ := info_evt
    go_wp2_with (at_builtin; refine wpList_append_elem (w := W3) rfl _ _ _ rfl 0 45 i _ 13 128 Try.underlying39 hi hz hsz hby rfl (by decide) nv _ _ rfl HNW.out (Evt.cells ⟨job, badge, index, text⟩).toArray rfl (evt_one _) rfl HN.out (by decide) (Nat.zero_le _) ?_; intro v' W4 ho hgr hat; have hc4 := tail_keep HT2.out.snk H3.out hgr; have d1' := hc4.cell (j := 1) rfl; have e1' := hc4.fz 1; clear hc4 d1; obtain ⟨k', cap', rfl⟩ := own_some ho)
    go_ret3
    exact ⟨rfl, put_end (index := index) (text := text) (by rw [if_neg (show ¬ index = 0 by simpa using t4)]; exact HT2.out) H3.out ho hgr hat HNF.out⟩
  · have t5 : text.toList.isEmpty = true := by rw [t5']; rfl
    by_cases b1 : badge < 1
    · have herr : s.err job badge index text = 161 := by rw [herr, if_pos (.inl b1)]
      rw [herr] at hsd hnew
      have u0 : decide (badge < 1) = true := decide_eq_true b1
      rw [if_neg (show ¬ (161 : Int) = 0 by decide)] at hsd
      have hnf : s.new job badge index text = false := by rw [hnew]; exact decide_eq_false (by omega)
      rw [hsd, hnf, herr]
      have HNF := Lib.hid hnf
      clear hsd hnf herr hnew hsl hjj
      go_enter Try.func9, Try.ntmps9
      go_wp2_with fail
      refine HC.out.mono ?_
      rintro x w1 ⟨rfl, hb1⟩
      obtain ⟨hl, c0, c1, f1⟩ := HW.out w1 hb1
      have HB := Lib.hid hb1
      clear hb1
      go_wp2
      go_ret3
      exact ⟨rfl, put_same HH.out HB.out HNF.out⟩
    have u0 : decide (badge < 1) = false := decide_eq_false b1
    by_cases b2 : 1099511627776 < badge
    · have herr : s.err job badge index text = 161 := by rw [herr, if_pos (.inr (.inl b2))]
      rw [herr] at hsd hnew
      have u1 : decide (1099511627776 < badge) = true := decide_eq_true b2
      rw [if_neg (show ¬ (161 : Int) = 0 by decide)] at hsd
      have hnf : s.new job badge index text = false := by rw [hnew]; exact decide_eq_false (by omega)
      rw [hsd, hnf, herr]
      have HNF := Lib.hid hnf
      clear hsd hnf herr hnew hsl hjj
      go_enter Try.func9, Try.ntmps9
      go_wp2_with fail
      refine HC.out.mono ?_
      rintro x w1 ⟨rfl, hb1⟩
      obtain ⟨hl, c0, c1, f1⟩ := HW.out w1 hb1
      have HB := Lib.hid hb1
      clear hb1
      go_wp2
      go_ret3
      exact ⟨rfl, put_same HH.out HB.out HNF.out⟩
    have u1 : decide (1099511627776 < badge) = false := decide_eq_false b2
    by_cases b3 : badge < sb
    · have herr : s.err job badge index text = 161 := by rw [herr, if_pos (.inr (.inr b3))]
      rw [herr] at hsd hnew
      have u2 : decide (badge < sb) = true := decide_eq_true b3
      rw [if_neg (show ¬ (161 : Int) = 0 by decide)] at hsd
      have hnf : s.new job badge index text = false := by rw [hnew]; exact decide_eq_false (by omega)
      rw [hsd, hnf, herr]
      have HNF := Lib.hid hnf
      clear hsd hnf herr hnew hsl hjj
      go_enter Try.func9, Try.ntmps9
      go_wp2_with fail
      refine HC.out.mono ?_
      rintro x w1 ⟨rfl, hb1⟩
      obtain ⟨hl, c0, c1, f1⟩ := HW.out w1 hb1
      have HB := Lib.hid hb1
      clear hb1
      go_wp2
      go_ret3
      exact ⟨rfl, put_same HH.out HB.out HNF.out⟩
    have u2 : decide (badge < sb) = false := decide_eq_false b3
    rw [if_neg (by omega : ¬ (badge < 1 ∨ 1099511627776 < badge ∨ badge < sb))] at herr
    by_cases i1 : index < 0
    · have herr : s.err job badge index text = 162 := by rw [herr, if_pos (.inl i1)]
      rw [herr] at hsd hnew
      have y0 : decide (index < 0) = true := decide_eq_true i1
      rw [if_neg (show ¬ (162 : Int) = 0 by decide)] at hsd
      have hnf : s.new job badge index text = false := by rw [hnew]; exact decide_eq_false (by omega)
      rw [hsd, hnf, herr]
      have HNF := Lib.hid hnf
      clear hsd hnf herr hnew hsl hjj
      go_enter Try.func9, Try.ntmps9
      go_wp2_with fail
      refine HC.out.mono ?_
      rintro x w1 ⟨rfl, hb1⟩
      obtain ⟨hl, c0, c1, f1⟩ := HW.out w1 hb1
      have HB := Lib.hid hb1
      clear hb1
      go_wp2
      go_ret3
      exact ⟨rfl, put_same HH.out HB.out HNF.out⟩
    have y0 : decide (index < 0) = false := decide_eq_false i1
    by_cases i2 : 16 < index
    · have herr : s.err job badge index text = 162 := by rw [herr, if_pos (.inr (.inl i2))]
      rw [herr] at hsd hnew
      have y1 : decide (16 < index) = true := decide_eq_true i2
      rw [if_neg (show ¬ (162 : Int) = 0 by decide)] at hsd
      have hnf : s.new job badge index text = false := by rw [hnew]; exact decide_eq_false (by omega)
      rw [hsd, hnf, herr]
      have HNF := Lib.hid hnf
      clear hsd hnf herr hnew hsl hjj
      go_enter Try.func9, Try.ntmps9
      go_wp2_with fail
      refine HC.out.mono ?_
      rintro x w1 ⟨rfl, hb1⟩
      obtain ⟨hl, c0, c1, f1⟩ := HW.out w1 hb1
      have HB := Lib.hid hb1
      clear hb1
      go_wp2
      go_ret3
      exact ⟨rfl, put_same HH.out HB.out HNF.out⟩
    have y1 : decide (16 < index) = false := decide_eq_false i2
    by_cases i3 : (ct : Int) < index
    · have herr : s.err job badge index text = 162 := by rw [herr, if_pos (.inr (.inr i3))]
      rw [herr] at hsd hnew
      have y2 : decide ((ct : Int) < index) = true := decide_eq_true i3
      rw [if_neg (show ¬ (162 : Int) = 0 by decide)] at hsd
      have hnf : s.new job badge index text = false := by rw [hnew]; exact decide_eq_false (by omega)
      rw [hsd, hnf, herr]
      have HNF := Lib.hid hnf
      clear hsd hnf herr hnew hsl hjj
      go_enter Try.func9, Try.ntmps9
      go_wp2_with fail
      refine HC.out.mono ?_
      rintro x w1 ⟨rfl, hb1⟩
      obtain ⟨hl, c0, c1, f1⟩ := HW.out w1 hb1
      have HB := Lib.hid hb1
      clear hb1
      go_wp2
      go_ret3
      exact ⟨rfl, put_same HH.out HB.out HNF.out⟩
    have y2 : decide ((ct : Int) < index) = false := decide_eq_false i3
    rw [if_neg (by omega : ¬ (index < 0 ∨ 16 < index ∨ (ct : Int) < index))] at herr
    rw [herr] at hsd hnew
    rw [if_pos rfl] at hsd
    by_cases i4 : index < (ct : Int)
    · have hnf : s.new job badge index text = false := by rw [hnew]; exact decide_eq_false (by omega)
      rw [hnf] at hsd
      rw [if_neg (by simp)] at hsd
      rw [hsd, hnf, herr]
      have y4 : decide (index < (ct : Int)) = true := decide_eq_true i4
      have HNF := Lib.hid hnf
      clear hsd hnf herr hnew hsl hjj
      go_enter Try.func9, Try.ntmps9
      go_wp2_with fail
      refine HC.out.mono ?_
      rintro x w1 ⟨rfl, hb1⟩
      obtain ⟨hl, c0, c1, f1⟩ := HW.out w1 hb1
      have HB := Lib.hid hb1
      clear hb1
      go_wp2
      go_ret3
      exact ⟨rfl, put_same HH.out HB.out HNF.out⟩
    have y4 : decide (index < (ct : Int)) = false := decide_eq_false i4
    have hnf : s.new job badge index text = true := by rw [hnew]; exact decide_eq_true (by omega)
    rw [hnf] at hsd
    rw [if_pos rfl] at hsd
    rw [hsd, hnf, herr]
    have hwr : IntKind.i64.wrap ((ct : Int) + 1) = (ct : Int) + 1 := IntWalk.i64_in _ (by omega)
    have HNF := Lib.hid hnf
    clear hsd hnf herr hnew hsl hjj
    go_enter Try.func9, Try.ntmps9
    go_wp2_with fail
    refine HC.out.mono ?_
    rintro x w1 ⟨rfl, hb1⟩
    obtain ⟨hl, c0, c1, f1⟩ := HW.out w1 hb1
    have HB := Lib.hid hb1
    clear hb1
    go_upto_region 16 with (fail)
    have HTL := Lib.hid (TailAt.of_below (l := []) HH.out HF.out HA.out (HB.out.alloc HB.out.size (.cells #[.int .i64 job, .int .i64 badge, .slice none 0 0] 49)) (Cells.new w1 _ _) (World.ownsRow_nil _ _ _ _) (fun k e => by simp [Value.ownBlock] at e))
    generalize w1.alloc (.cells #[.int .i64 job, .int .i64 badge, .slice none 0 0] 49) = W at *
    have d0 := HTL.out.snk.cells.cell (j := 0) rfl
    have a0 := HTL.out.cells.cell (j := 0) rfl
    have a1 := HTL.out.cells.cell (j := 1) rfl
    have a2 := HTL.out.cells.cell (j := 2) rfl
    go_still_tail 6, (by kernel_rfl)
    have HT2 := Lib.hid HTL.out.drew
    clear HTL d0 a0 a1 a2
    change wpList _ _ _ _ _ W.drew
    generalize W.drew = W2 at HT2 ⊢
    obtain ⟨W3, hrun, h3⟩ := tail_store HT2.out HJ.out
    have H3 := Lib.hid h3
    have d1 := h3.cells.cell (j := 1) rfl
    have HNW := Lib.hid (HT2.out.snk.news.kept h3.grown (tail_ne HT2.out))
    clear h3
    obtain ⟨i, hi, hz, hsz, hby⟩ := info_evt
    go_wp2_with (at_builtin; refine wpList_append_elem (w := W3) rfl _ _ _ rfl 0 45 i _ 13 128 Try.underlying39 hi hz hsz hby rfl (by decide) nv _ _ rfl HNW.out (Evt.cells ⟨job, badge, index, text⟩).toArray rfl (evt_one _) rfl HN.out (by decide) (Nat.zero_le _) ?_; intro v' W4 ho hgr hat; have hc4 := tail_keep HT2.out.snk H3.out hgr; have d1' := hc4.cell (j := 1) rfl; have e1' := hc4.fz 1; clear hc4 d1; obtain ⟨k', cap', rfl⟩ := own_some ho)
    go_ret3
    exact ⟨rfl, put_end (index := index) (text := text) (by rw [if_pos (show index = 0 by simpa using t4)]; exact HT2.out) H3.out ho hgr hat HNF.out⟩
end Go.Proofs.Ytpnfdmglhonkmaa
