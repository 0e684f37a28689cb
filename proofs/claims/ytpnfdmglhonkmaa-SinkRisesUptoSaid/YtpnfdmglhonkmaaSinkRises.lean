/- SinkRises: of each job the badges of what is admitted never fall, under one badge the indices count up from the claim, and the artefact is just what was admitted under the last one. Condition: the argument is of bulk at most 1048576. -/
import Derived.StillTailTactics
import Derived.BigQuiet
import Derived.Deep.Cut
import Derived.Deep.DeepCutAuto
import Derived.Deep.RegionHeldLaw
import Derived.Test.YtpnfdmglhonkmaaTwo
set_option maxRecDepth 100000
namespace Go.Proofs.Ytpnfdmglhonkmaa.sinkRises
open Go.RowKit Go.WideShapes Go.ChangeShapes Go.ChangeAt Go.Maps
open Go.ChangeMaps (open_string shut_string)

/-! ### The plain law -/
/-- what an admitted piece is -/
structure New (s : Snk) (j b i : Int) (t : ByteArray) : Prop where
  job : 1 ≤ j ∧ j ≤ 8
  badge : 1 ≤ b ∧ b ≤ 1099511627776 ∧ s.badge j ≤ b
  index : 0 ≤ i ∧ i ≤ 16 ∧ i = (s.count j b : Int)
  text : t.size ≤ 32 ∧ (i = 0 → t = ⟨#[]⟩)

theorem new_of {s : Snk} {j b i : Int} {t : ByteArray} (h : s.new j b i t = true) : New s j b i t := by
  unfold Snk.new at h
  rw [decide_eq_true_eq] at h
  obtain ⟨he, hi⟩ := h
  unfold Snk.err at he
  split at he
  · simp at he
  split at he
  · simp at he
  rename_i h2
  split at he
  · simp at he
  split at he
  · simp at he
  refine ⟨by omega, by omega, by omega, by omega, fun h0 => Classical.byContradiction fun ht => h2 (.inr ⟨h0, ht⟩)⟩

theorem new_first {s : Snk} {j b i : Int} {t : ByteArray} (h : New s j b i t) (hb : s.badge j < b) : i = 0 ∧ t = ⟨#[]⟩ := by
  have hc : s.count j b = 0 := by
    unfold Snk.count
    unfold Snk.badge at hb
    split
    · rename_i a ha
      rw [ha] at hb
      simp only at hb
      exact if_neg (by omega)
    · rfl
  have hi := h.index
  rw [hc] at hi
  exact ⟨by omega, h.text.2 (by omega)⟩
theorem new_next {s : Snk} {j b i : Int} {t : ByteArray} (h : New s j b i t) (hb : ¬ s.badge j < b) : b = s.badge j ∧ i = 1 + ((s.pieces j).length : Int) := by
  have he : b = s.badge j := by have := h.badge; omega
  refine ⟨he, ?_⟩
  have hc : s.count j b = 1 + (s.pieces j).length := by
    have hb1 := h.badge.1
    unfold Snk.count Snk.pieces
    unfold Snk.badge at he
    cases ha : s.art j with
    | none =>
      rw [ha] at he
      simp only at he
      omega
    | some a =>
      rw [ha] at he
      simp only at he
      exact if_pos he.symm
  have := h.index
  rw [hc] at this
  omega

theorem admit_badge (s : Snk) (j b i : Int) (t : ByteArray) (k : Int) : (s.takeIn j b i t).badge k = if k = j then b else s.badge k := by
  unfold Snk.badge Snk.takeIn
  by_cases h : k = j
  · simp [h]
  · simp [h]
theorem admit_pieces (s : Snk) (j b i : Int) (t : ByteArray) (k : Int) : (s.takeIn j b i t).pieces k = if k = j then (if i = 0 then [] else s.pieces j ++ [t]) else s.pieces k := by
  unfold Snk.pieces Snk.takeIn
  by_cases h : k = j
  · simp [h, Snk.pieces]
  · simp [h]

/-- an operation admits nothing, or one piece -/
theorem put_cases (s : Snk) (hn : s.news = []) (j b i : Int) (t : ByteArray) : (s.put j b i t = s) ∨ (New s j b i t ∧ s.put j b i t = s.takeIn j b i t ∧ (s.put j b i t).news = [⟨j, b, i, t⟩]) := by
  by_cases h : s.new j b i t = true
  · right
    have hp : s.put j b i t = s.takeIn j b i t := by unfold Snk.put; rw [if_pos h]
    refine ⟨new_of h, hp, ?_⟩
    rw [hp]
    unfold Snk.takeIn
    simp [hn]
  · left
    unfold Snk.put
    rw [if_neg h]

/-! ### The law's own memory -/
structure AllAt (w0 w : World) (ga : Nat) (c : Array Value) (pv : Nat → Value) (far : List Nat) (bd : Int → Int) (ps : Int → List ByteArray) : Prop where
  base : w0.heap.size ≤ ga
  cells : Cells w ga 29 c
  size : c.size = 18
  at0 : ∀ j : Nat, j < 9 → c[j * 2]? = some (.int .i64 (bd j))
  at1 : ∀ j : Nat, j < 9 → c[j * 2 + 1]? = some (pv j)
  rows : ∀ j : Nat, j < 9 → w.ownsRow w0.heap.size 9 1 (pv j) (ps j).length ((ps j).map Value.string)
  apart : ∀ i j : Nat, i < 9 → j < 9 → i ≠ j → ∀ k, (pv i).ownBlock = some k → (pv j).ownBlock ≠ some k
  far : ∀ (j k : Nat), j < 9 → (pv j).ownBlock = some k → k ∈ far

theorem AllAt.turns {w0 w w' : World} {ga : Nat} {c : Array Value} {pv : Nat → Value} {far : List Nat} {bd : Int → Int} {ps : Int → List ByteArray} {S : List Nat} (h : AllAt w0 w ga c pv far bd ps) (ht : Turns S w w') (h1 : ∀ x ∈ S, ∀ c fr, w.heap[x]? ≠ some (.cells c 29 fr)) (h2 : ∀ x ∈ S, ∀ c fr, w.heap[x]? ≠ some (.cells c 9 fr)) : AllAt w0 w' ga c pv far bd ps :=
  ⟨h.base, h.cells.turns ht (fun hx => h1 _ hx _ _ h.cells), h.size, h.at0, h.at1, fun j hj => row_turns (h.rows j hj) ht h2, h.apart, h.far⟩
theorem AllAt.below {w0 w w' : World} {ga : Nat} {c : Array Value} {pv : Nat → Value} {far : List Nat} {bd : Int → Int} {ps : Int → List ByteArray} (h : AllAt w0 w ga c pv far bd ps) (hb : Below w.heap.size w w') : AllAt w0 w' ga c pv far bd ps :=
  h.turns (Turns.of_below (S := []) hb) (by simp) (by simp)

/-- all of it -/
structure RZ (w0 w : World) (g bm : Nat) (nv : Value) (s : Snk) (ga : Nat) (c : Array Value) (pv : Nat → Value) (bd : Int → Int) (ps : Int → List ByteArray) : Prop where
  mine : Mine w0 w g bm nv s
  below : Below w0.heap.size w0 w
  all : AllAt w0 w ga c pv s.far bd ps

theorem RZ.step {w0 w w' : World} {g bm : Nat} {nv nv' : Value} {s s' : Snk} {ga : Nat} {c : Array Value} {pv : Nat → Value} {bd : Int → Int} {ps : Int → List ByteArray} (h : RZ w0 w g bm nv s ga c pv bd ps) (hf : s'.far = s.far) (hs : SnkAt w' g bm nv' s') (hl : nv'.ownBlock = nv.ownBlock ∨ ∃ k, nv'.ownBlock = some k ∧ w.heap.size ≤ k) (ht : Turns (ownBlocks g bm nv) w w') : RZ w0 w' g bm nv' s' ga c pv bd ps := by
  have h2 := h.mine.next h.below hs hl ht
  exact ⟨h2.1, h2.2, by rw [hf]; exact h.all.turns ht (h.mine.at_.noType (by decide) (by decide)) (h.mine.at_.noType (by decide) (by decide))⟩
theorem RZ.keep {w0 w w' : World} {g bm : Nat} {nv : Value} {s : Snk} {ga : Nat} {c : Array Value} {pv : Nat → Value} {bd : Int → Int} {ps : Int → List ByteArray} (h : RZ w0 w g bm nv s ga c pv bd ps) (hb : Below w.heap.size w w') : RZ w0 w' g bm nv s ga c pv bd ps :=
  ⟨h.mine.below hb, h.below.trans (hb.mono h.below.size), h.all.below hb⟩

theorem heard_far (s : Snk) (b : ByteArray) : (s.heard b).far = s.far := by
  unfold Snk.heard
  split
  · unfold Snk.put
    split <;> rfl
  · rfl
theorem put_far (s : Snk) (j b i : Int) (t : ByteArray) : (s.put j b i t).far = s.far := by
  unfold Snk.put
  split <;> rfl

theorem heard_cases (s : Snk) (hn : s.news = []) (d : ByteArray) : (s.heard d = s) ∨ ∃ j b i t, New s j b i t ∧ s.heard d = s.takeIn j b i t ∧ (s.heard d).news = [⟨j, b, i, t⟩] := by
  unfold Snk.heard
  split
  · rcases put_cases s hn (decode d).1.job (decode d).1.badge (decode d).1.idx (decode d).1.text with h | h
    · exact .inl h
    · exact .inr ⟨_, _, _, _, h⟩
  · exact .inl rfl
theorem put_cases' (s : Snk) (hn : s.news = []) (j b i : Int) (t : ByteArray) : (s.put j b i t = s) ∨ ∃ j' b' i' t', New s j' b' i' t' ∧ s.put j b i t = s.takeIn j' b' i' t' ∧ (s.put j b i t).news = [⟨j', b', i', t'⟩] := by
  rcases put_cases s hn j b i t with h | h
  · exact .inl h
  · exact .inr ⟨_, _, _, _, h⟩

theorem rz_told {w0 w w' : World} {g bm : Nat} {nv : Value} {s : Snk} {ga : Nat} {c : Array Value} {pv : Nat → Value} {bd : Int → Int} {ps : Int → List ByteArray} (h : RZ w0 w g bm nv s ga c pv bd ps) (hs : SnkAt w' g bm (.slice none 0 0) { s with news := [] }) (hg : w.grownBy w' (some g)) : RZ w0 w' g bm (.slice none 0 0) { s with news := [] } ga c pv bd ps :=
  ⟨⟨hs, h.mine.g, h.mine.b, fun k hk => by cases hk⟩, h.below.grown hg h.below.size (fun k hk => by cases hk; exact h.mine.g),
    h.all.turns (Turns.of_only hg) (fun x hx => h.mine.at_.noType (by decide) (by decide) x (by simp at hx; subst hx; simp [ownBlocks])) (fun x hx => h.mine.at_.noType (by decide) (by decide) x (by simp at hx; subst hx; simp [ownBlocks]))⟩

def zeros : Array Value := #[.int .i64 0, .slice none 0 0, .int .i64 0, .slice none 0 0, .int .i64 0, .slice none 0 0, .int .i64 0, .slice none 0 0, .int .i64 0, .slice none 0 0, .int .i64 0, .slice none 0 0, .int .i64 0, .slice none 0 0, .int .i64 0, .slice none 0 0, .int .i64 0, .slice none 0 0]
theorem zeros_store (w : World) (n : Nat) (h : n = w.heap.size) : (storeCells ⟨n, 0, none⟩ zeros.toList 0).run Try.prog (w.alloc (.cells zeros 29)) = .ok () (w.alloc (.cells zeros 29)) := by
  subst h
  exact run_storeCells_new w 29 _ zeros (by kernel_rfl) (by kernel_rfl) (by kernel_rfl)
theorem rz_start {w0 w : World} {g bm : Nat} (h : Mine w0 w g bm (.slice none 0 0) Snk.none) (hb : Below w0.heap.size w0 w) :
    RZ w0 (w.alloc (.cells zeros 29)) g bm (.slice none 0 0) Snk.none w.heap.size zeros (fun _ => .slice none 0 0) Snk.none.badge Snk.none.pieces := by
  have hk := below_new0 w (.cells zeros 29)
  refine ⟨h.below hk, hb.trans (hk.mono hb.size), hb.size, Cells.new _ _ _, rfl, ?_, ?_, fun j _ => World.ownsRow_nil _ _ _ _, ?_, ?_⟩
  · intro j hj
    match j, hj with
    | 0, _ | 1, _ | 2, _ | 3, _ | 4, _ | 5, _ | 6, _ | 7, _ | 8, _ => rfl
  · intro j hj
    match j, hj with
    | 0, _ | 1, _ | 2, _ | 3, _ | 4, _ | 5, _ | 6, _ | 7, _ | 8, _ => rfl
  · intro i j _ _ _ k hk
    cases hk
  · intro j k _ hk
    cases hk

theorem AllAt.put {w0 w w' : World} {ga : Nat} {ca ca' : Array Value} {pv : Nat → Value} {far far' : List Nat} {bd bd' : Int → Int} {ps ps' : Int → List ByteArray} (h : AllAt w0 w ga ca pv far bd ps) (jn : Nat) (v' : Value) (hc : Cells w' ga 29 ca') (hsz : ca'.size = 18)
    (h0 : ∀ j : Nat, j < 9 → ca'[j * 2]? = some (.int .i64 (bd' j))) (h1 : ∀ j : Nat, j < 9 → ca'[j * 2 + 1]? = some (if j = jn then v' else pv j)) (hps : ∀ j : Nat, j ≠ jn → ps' j = ps j)
    (hrows : ∀ j : Nat, j < 9 → j ≠ jn → w'.ownsRow w0.heap.size 9 1 (pv j) (ps j).length ((ps j).map Value.string)) (hrow : w'.ownsRow w0.heap.size 9 1 v' (ps' jn).length ((ps' jn).map Value.string))
    (hap : ∀ i : Nat, i < 9 → i ≠ jn → ∀ k, (pv i).ownBlock = some k → v'.ownBlock ≠ some k) (hf : ∀ k ∈ far, k ∈ far') (hfv : ∀ k, v'.ownBlock = some k → k ∈ far') : AllAt w0 w' ga ca' (fun j => if j = jn then v' else pv j) far' bd' ps' := by
  refine ⟨h.base, hc, hsz, h0, h1, fun j hj => ?_, fun i j hi hj hij k hk => ?_, fun j k hj hk => ?_⟩
  · by_cases e : j = jn
    · subst e
      simpa using hrow
    · simp only [if_neg e]
      rw [hps j e]
      exact hrows j hj e
  · by_cases e : i = jn
    · by_cases e2 : j = jn
      · omega
      · simp only [if_pos e] at hk
        simp only [if_neg e2]
        intro hk2
        exact hap j hj e2 k hk2 hk
    · simp only [if_neg e] at hk
      by_cases e2 : j = jn
      · simp only [if_pos e2]
        exact hap i hi e k hk
      · simp only [if_neg e2]
        exact h.apart i j hi hj hij k hk
  · by_cases e : j = jn
    · simp only [if_pos e] at hk
      exact hfv k hk
    · simp only [if_neg e] at hk
      exact hf k (h.far j k hj hk)

theorem set_at0 {c : Array Value} (_ : c.size = 18) {jn j : Nat} (_ : j < 9) (v : Value) : (c.setIfInBounds (jn * 2 + 1) v)[j * 2]? = c[j * 2]? := by
  rw [Array.getElem?_setIfInBounds, if_neg (by omega)]
theorem set_at1 {c : Array Value} (hs : c.size = 18) {jn j : Nat} (hj : j < 9) (v : Value) : (c.setIfInBounds (jn * 2 + 1) v)[j * 2 + 1]? = if j = jn then some v else c[j * 2 + 1]? := by
  rw [Array.getElem?_setIfInBounds]
  by_cases e : j = jn
  · subst e
    rw [if_pos rfl, if_pos (by omega), if_pos rfl]
  · rw [if_neg (by omega), if_neg e]
theorem set_bt0 {c : Array Value} (hs : c.size = 18) {jn j : Nat} (hj : j < 9) (v : Value) : (c.setIfInBounds (jn * 2) v)[j * 2]? = if j = jn then some v else c[j * 2]? := by
  rw [Array.getElem?_setIfInBounds]
  by_cases e : j = jn
  · subst e
    rw [if_pos rfl, if_pos (by omega), if_pos rfl]
  · rw [if_neg (by omega), if_neg e]
theorem set_bt1 {c : Array Value} (_ : c.size = 18) {jn j : Nat} (_ : j < 9) (v : Value) : (c.setIfInBounds (jn * 2) v)[j * 2 + 1]? = c[j * 2 + 1]? := by
  rw [Array.getElem?_setIfInBounds, if_neg (by omega)]

/-- the claim of a job -/
theorem rz_first {w0 w : World} {g bm : Nat} {s s' : Snk} {ga : Nat} {ca : Array Value} {pv : Nat → Value} {jn : Nat} {b : Int} {t : ByteArray} (h : RZ w0 w g bm (.slice none 0 0) { s' with news := [] } ga ca pv s.badge s.pieces) (hj : jn < 9) (hs : s' = s.takeIn (jn : Int) b 0 t) :
    RZ w0 ((w.setCell ⟨ga, jn * 2, none⟩ (.int .i64 b)).setCell ⟨ga, jn * 2 + 1, none⟩ (.slice none 0 0)) g bm (.slice none 0 0) { s' with news := [] } ga ((ca.setIfInBounds (jn * 2) (.int .i64 b)).setIfInBounds (jn * 2 + 1) (.slice none 0 0)) (fun j => if j = jn then .slice none 0 0 else pv j) ({ s' with news := [] } : Snk).badge ({ s' with news := [] } : Snk).pieces := by
  have hT : Turns [ga] w ((w.setCell ⟨ga, jn * 2, none⟩ (.int .i64 b)).setCell ⟨ga, jn * 2 + 1, none⟩ (.slice none 0 0)) := ((Turns.refl _ _).set (.inl (by simp)) _).set (.inl (by simp)) _
  have hga : ga ∉ ownBlocks g bm (.slice none 0 0) := fun hx => h.mine.at_.noType (by decide) (by decide) _ hx _ _ h.all.cells
  simp only [ownBlocks, Value.ownBlock, List.mem_cons, not_or, List.not_mem_nil] at hga
  have hty : ∀ x ∈ [ga], ∀ c fr, w.heap[x]? ≠ some (.cells c 9 fr) := by
    intro x hx c fr he
    simp at hx
    subst hx
    have hc := h.all.cells
    unfold Cells at hc
    rw [hc] at he
    injection he with he
    injection he with _ ht _
    exact absurd ht (by decide)
  have hb : ∀ k : Int, ({ s' with news := [] } : Snk).badge k = if k = jn then b else s.badge k := by
    intro k
    have := admit_badge s jn b 0 t k
    rw [← hs] at this
    exact this
  have hp : ∀ k : Int, ({ s' with news := [] } : Snk).pieces k = if k = jn then [] else s.pieces k := by
    intro k
    have := admit_pieces s jn b 0 t k
    rw [← hs] at this
    exact this
  have hsnk := h.mine.at_.turns hT (by simpa using fun e => hga.1 e.symm) (by simpa using fun e => hga.2.1 e.symm) (fun k hk => by cases hk) hty
  refine ⟨⟨hsnk, h.mine.g, h.mine.b, h.mine.n⟩, hT.below h.below.size (fun x hx => by simp at hx; subst hx; exact h.all.base) |> h.below.trans, ?_⟩
  refine AllAt.put h.all jn (.slice none 0 0) (Cells.set (Cells.set h.all.cells _ _) _ _) (by simp [h.all.size]) ?_ ?_ ?_ ?_ ?_ ?_ (fun k hk => hk) (fun k hk => by cases hk)
  · intro j hj9
    rw [set_at0 (by simp [h.all.size]) hj9, set_bt0 h.all.size hj9, hb, h.all.at0 j hj9]
    by_cases e : j = jn
    · subst e
      simp
    · rw [if_neg e, if_neg (by omega)]
  · intro j hj9
    rw [set_at1 (by simp [h.all.size]) hj9, set_bt1 h.all.size hj9, h.all.at1 j hj9]
    split <;> rfl
  · intro j hj9
    rw [hp, if_neg (by omega)]
  · intro j hj9 e
    exact row_turns (h.all.rows j hj9) hT hty
  · rw [hp, if_pos rfl]
    exact World.ownsRow_nil _ _ _ _
  · intro i _ _ k _ hk
    cases hk

theorem jobs_start {s : Snk} (h : s.Fit) : s.jobs = ((List.finRange 9).drop 1).filter (fun i => (s.art (i.val : Int)).isSome) := by
  have key : ∀ p : Fin 9 → Bool, p 0 = false → (List.finRange 9).filter p = ((List.finRange 9).drop 1).filter p := by
    intro p hp
    rw [show List.finRange 9 = [0, 1, 2, 3, 4, 5, 6, 7, 8] from by decide]
    simp [hp]
  refine key _ ?_
  cases ha : s.art ((0 : Fin 9).val : Int) with
  | none => rfl
  | some a =>
    have := (h.job _ _ ha).1
    simp at this
theorem drop_step (j : Nat) (hj : j < 9) : (List.finRange 9).drop j = ⟨j, hj⟩ :: (List.finRange 9).drop (j + 1) := by
  match j, hj with
  | 0, _ | 1, _ | 2, _ | 3, _ | 4, _ | 5, _ | 6, _ | 7, _ | 8, _ => rfl

theorem rz_cells {w0 w w' : World} {g bm : Nat} {nv : Value} {s : Snk} {ga : Nat} {ca : Array Value} {pv : Nat → Value} {bd : Int → Int} {ps : Int → List ByteArray} {jn : Nat} (h : RZ w0 w g bm nv s ga ca pv bd ps) (hj : jn < 9) (hg : w.grownBy w' (pv jn).ownBlock) : Cells w' ga 29 ca := by
  refine h.all.cells.grown hg fun e => ?_
  obtain ⟨c, hc⟩ := own_block_type (h.all.rows jn hj) e.symm
  exact block_ne h.all.cells hc (by decide) rfl

theorem row_cells {w w' : World} {base : Nat} {t : TypeId} {size : Nat} {v : Value} {n : Nat} {xs : List Value} (h : w.ownsRow base t size v n xs) (hg : w.grownBy w' v.ownBlock) {g : Nat} {t' : TypeId} {c : Array Value} (hc : Cells w g t' c) (hne : t' ≠ t) : Cells w' g t' c := by
  refine hc.grown hg fun e => ?_
  obtain ⟨c', hc'⟩ := own_block_type h e.symm
  exact block_ne hc hc' hne rfl

theorem rz_at {w w' : World} {o : Obj} {v : Value} {g n c : Nat} (_ : g < w'.heap.size) (h : v.ownBlock = some g ∨ g = (w.alloc o).drew.heap.size) : (Value.slice (some ⟨g, 0, none⟩) n c).ownBlock = v.ownBlock ∨ ∃ k, (Value.slice (some ⟨g, 0, none⟩) n c).ownBlock = some k ∧ w.heap.size ≤ k := by
  rcases h with h | h
  · exact .inl h.symm
  · refine .inr ⟨g, rfl, ?_⟩
    simp at h
    omega

theorem rz_grown (w : World) (o : Obj) {w' : World} {row : Option Nat} (h : (w.alloc o).drew.grownBy w' row) : w.grownBy w' row := by
  have ha := World.grownBy_alloc w o row
  exact ⟨h.os.trans ha.os, h.tape.trans ha.tape, h.output.trans ha.output, Nat.le_trans ha.size h.size, fun k hk hne => (h.block k (Nat.lt_of_lt_of_le hk ha.size) hne).trans (ha.block k hk hne)⟩

/-- one piece more -/
theorem rz_next {w0 w w' : World} {g bm : Nat} {s s' : Snk} {ga : Nat} {ca : Array Value} {pv : Nat → Value} {jn : Nat} {b : Int} {t : ByteArray} {v' : Value} (h : RZ w0 w g bm (.slice none 0 0) { s' with news := [] } ga ca pv s.badge s.pieces) (hj : jn < 9) {i : Int} (hi : i ≠ 0) (hbs : b = s.badge jn) (hs : s' = s.takeIn (jn : Int) b i t)
    (hg : w.grownBy w' (pv jn).ownBlock) (ho : w'.ownsRow w0.heap.size 9 1 v' ((s.pieces jn).length + 1) ((s.pieces jn).map Value.string ++ [.string t])) (hat : v'.ownBlock = (pv jn).ownBlock ∨ ∃ k, v'.ownBlock = some k ∧ w.heap.size ≤ k) :
    ∃ s2 c2 pv2, s2.news = [] ∧ RZ w0 (w'.setCell ⟨ga, jn * 2 + 1, none⟩ v') g bm (.slice none 0 0) s2 ga c2 pv2 s2.badge s2.pieces := by
  obtain ⟨S, hS⟩ : ∃ S : List Nat, S = (match (pv jn).ownBlock with | some k => [k] | none => []) := ⟨_, rfl⟩
  have hSm : ∀ x, x ∈ S → (pv jn).ownBlock = some x := by
    intro x hx
    rw [hS] at hx
    cases hk : (pv jn).ownBlock with
    | none => rw [hk] at hx; simp at hx
    | some k =>
      rw [hk] at hx
      simp at hx
      rw [hx]
  have hT : Turns S w w' := ⟨hg.os, hg.tape, hg.output, hg.size, fun k hk hn => hg.block k hk (fun e => hn (by rw [hS, ← e]; simp))⟩
  have hstr : ∀ x ∈ S, ∃ c, w.heap[x]? = some (.cells c 9 (0, 0)) := fun x hx => own_block_type (h.all.rows jn hj) (hSm x hx)
  have hga : ga ∉ S := fun hx => by
    obtain ⟨c, hc⟩ := hstr ga hx
    exact block_ne h.all.cells hc (by decide) rfl
  have hown : ∀ x ∈ ownBlocks g bm (.slice none 0 0), x ∉ S := fun x hx hx2 => by
    obtain ⟨c, hc⟩ := hstr x hx2
    exact h.mine.at_.noType (by decide) (by decide) x hx _ _ hc
  have hfar : ∀ x ∈ S, x ∈ s'.far ∨ ∀ c fr, w.heap[x]? ≠ some (.cells c 9 fr) := fun x hx => .inl (h.all.far jn x hj (hSm x hx))
  have hc' : Cells w' ga 29 ca := h.all.cells.turns hT hga
  have hgv : v'.ownBlock ≠ some ga := by
    intro e
    obtain ⟨c, hc⟩ := own_block_type ho e
    exact block_ne hc' hc (by decide) rfl
  have hT2 : Turns [ga] w' (w'.setCell ⟨ga, jn * 2 + 1, none⟩ v') := (Turns.refl _ _).set (.inl (by simp)) _
  have hty2 : ∀ x ∈ [ga], ∀ c fr, w'.heap[x]? ≠ some (.cells c 9 fr) := by
    intro x hx c fr he
    simp at hx
    subst hx
    unfold Cells at hc'
    rw [hc'] at he
    injection he with he
    injection he with _ ht _
    exact absurd ht (by decide)
  have hgown : ga ∉ ownBlocks g bm (.slice none 0 0) := fun hx => h.mine.at_.noType (by decide) (by decide) _ hx _ _ h.all.cells
  have hnew : ∃ far', (∀ k ∈ s'.far, k ∈ far') ∧ (∀ k, v'.ownBlock = some k → k ∈ far') ∧ SnkAt w' g bm (.slice none 0 0) { s' with news := [], far := far' } := by
    rcases hat with hat | ⟨k, hk, hk2⟩
    · refine ⟨s'.far, fun k hk => hk, fun k hk => h.all.far jn k hj (hat ▸ hk), ?_⟩
      exact h.mine.at_.turnsF hT (hown g (by simp [ownBlocks])) (hown bm (by simp [ownBlocks])) (fun k hk => by cases hk) hfar
    · refine ⟨k :: s'.far, fun x hx => List.mem_cons_of_mem _ hx, fun x hx => by rw [hk] at hx; injection hx with hx; rw [hx]; exact List.mem_cons_self, ?_⟩
      exact h.mine.at_.farther hT (hown g (by simp [ownBlocks])) (hown bm (by simp [ownBlocks])) (fun k hk => by cases hk) hfar hk2 (ho.lt k hk).2
  obtain ⟨far', hf1, hf2, hsn⟩ := hnew
  have hsn2 := hsn.turns hT2 (fun e => hgown (by simp at e; simp [ownBlocks, e])) (fun e => hgown (by simp at e; simp [ownBlocks, e])) (fun k hk => by cases hk) hty2
  have hb : ∀ k : Int, ({ s' with news := [], far := far' } : Snk).badge k = s.badge k := by
    intro k
    have := admit_badge s jn b i t k
    rw [← hs] at this
    refine this.trans ?_
    split
    · rename_i e
      rw [e, hbs]
    · rfl
  have hp : ∀ k : Int, ({ s' with news := [], far := far' } : Snk).pieces k = if k = jn then s.pieces jn ++ [t] else s.pieces k := by
    intro k
    have := admit_pieces s jn b i t k
    rw [← hs, if_neg hi] at this
    exact this
  refine ⟨{ s' with news := [], far := far' }, ca.setIfInBounds (jn * 2 + 1) v', fun j => if j = jn then v' else pv j, rfl, ⟨⟨hsn2, h.mine.g, h.mine.b, h.mine.n⟩, ?_, ?_⟩⟩
  · refine h.below.trans ?_
    refine (hT.below h.below.size fun x hx => ((h.all.rows jn hj).lt x (hSm x hx)).1).trans ?_
    exact hT2.below (Nat.le_trans h.below.size hT.size) (fun x hx => by simp at hx; subst hx; exact h.all.base)
  · refine AllAt.put h.all jn v' (Cells.set hc' _ _) (by simp [h.all.size]) ?_ ?_ ?_ ?_ ?_ ?_ hf1 hf2
    · intro j hj9
      rw [set_at0 h.all.size hj9, hb, h.all.at0 j hj9]
    · intro j hj9
      rw [set_at1 h.all.size hj9, h.all.at1 j hj9]
      split <;> rfl
    · intro j e
      rw [hp, if_neg (by omega)]
    · intro j hj9 e
      have h1 : w'.ownsRow w0.heap.size 9 1 (pv j) (s.pieces j).length ((s.pieces j).map Value.string) := by
        refine (h.all.rows j hj9).kept hg ?_
        cases hk : (pv j).ownBlock with
        | none => exact .inl rfl
        | some k => exact .inr (fun e2 => h.all.apart j jn hj9 hj e k hk e2.symm)
      exact row_turns h1 hT2 hty2
    · rw [hp, if_pos rfl]
      have := row_turns ho hT2 hty2
      simpa using this
    · intro x hx9 e k hk
      rcases hat with hat | ⟨k2, hk2, hk3⟩
      · rw [hat]
        exact h.all.apart x jn hx9 hj e k hk
      · rw [hk2]
        intro e2
        injection e2 with e2
        have := ((h.all.rows x hx9).lt k hk).2
        omega

set_option maxHeartbeats 4000000 in
set_option maxRecDepth 100000 in
theorem walk (A : Option Addr) (c : Nat) (l : List SOp) (w : World) (hin : OpsIn w w.heap.size A l) (hfit : ∀ o ∈ l, o.Fit) (hlen : l.length < 1048577) :
    Calls Try.prog 3 #[.slice A l.length c] w fun e w' => e = .returned (.bool true) ∧ Below w.heap.size w w' := by
  have HA := Lib.hid awake_any
  have HIN := Lib.hid hin
  have HFIT := Lib.hid hfit
  clear hin hfit
  go_enter Try.func3, Try.ntmps3
  go_wp2_with fail
  refine (snkNew_any _).mono ?_
  rintro x w1 ⟨bm, g, rfl, hs1, hb1, hg1, hm1⟩
  have HP1 := Lib.hid (show Mine w w1 g bm (.slice none 0 0) Snk.none ∧ Below w.heap.size w w1 from ⟨⟨hs1, hg1, hm1, fun k hk => by cases hk⟩, hb1⟩)
  clear hs1 hb1 hg1 hm1
  go_wp2_with fail
  refine (HA.out _).mono ?_
  rintro x w3 ⟨rfl, hb3⟩
  have HP3 := Lib.hid (show Mine w w3 g bm (.slice none 0 0) Snk.none ∧ Below w.heap.size w w3 from ⟨HP1.out.1.below hb3, HP1.out.2.trans (hb3.mono HP1.out.2.size)⟩)
  clear hb3
  go_upto_region 4 with (fail)
  go_cut [4] (fun s4 wx => s4 = .pointer (some ⟨w3.heap.size, 0, none⟩) ∧ wx = w3.alloc (.cells #[.int .i64 0, .slice none 0 0, .int .i64 0, .slice none 0 0, .int .i64 0, .slice none 0 0, .int .i64 0, .slice none 0 0, .int .i64 0, .slice none 0 0, .int .i64 0, .slice none 0 0, .int .i64 0, .slice none 0 0, .int .i64 0, .slice none 0 0, .int .i64 0, .slice none 0 0] 29))
  case first =>
    as_aux_lemma =>
      have hst := zeros_store
      simp only [zeros] at hst
      go_wp2
      go_meet
      exact ⟨rfl, rfl⟩
  case rest =>
  obtain ⟨rfl, hwc⟩ := hcut
  have HZ0 := Lib.hid (hwc ▸ rz_start HP3.out.1 HP3.out.2 : RZ w wc g bm (.slice none 0 0) Snk.none w3.heap.size zeros (fun _ => .slice none 0 0) Snk.none.badge Snk.none.pieces)
  clear hwc
  generalize w3.heap.size = ga at HZ0 ⊢
  go_upto_region 6 with (fail)
  go_loopw [5] (fun i wr => ∃ (k : Nat) (nv : Value) (s : Snk) (ca : Array Value) (pv : Nat → Value), k ≤ l.length ∧ i = .int .i64 (k : Int) ∧ s.news = [] ∧ RZ w wr g bm nv s ga ca pv s.badge s.pieces) (fun i _ => l.length - (intOf i).toNat)
  case atStart => exact ⟨0, _, Snk.none, _, _, Nat.zero_le _, rfl, rfl, HZ0.out⟩
  case round =>
    obtain ⟨k, nv, s, ca, pv, hk, rfl, hnw, hP⟩ := hrel
    have HP := Lib.hid hP
    have HNW := Lib.hid hnw
    clear hP hnw
    by_cases hlt : k < l.length
    · obtain ⟨o, ho⟩ : ∃ o, l[k]? = some o := ⟨_, List.getElem?_eq_getElem hlt⟩
      obtain ⟨b0, off, rfl, hb0, hcell⟩ := (HIN.out.below HP.out.below) (by omega)
      have hoc := hcell k o ho
      have hof := HFIT.out o (List.mem_of_getElem? ho)
      have hi0 : (0 : Int) ≤ (k : Int) := by omega
      have hi1 : (k : Int) < (l.length : Int) := by omega
      obtain ⟨c0, c1', c2, c3, c4, c5', c6', c7, c8⟩ := hoc
      have HOF := Lib.hid hof
      clear hcell hof ho
      go_upto_region 9 with (fail)
      clear c0 c1' c2 c3 c4 c5' c6' c7 c8
      have HS9 := Lib.hid (HP.out.keep (below_new0 wr (.cells #[.int .i64 o.kind, .int .i64 o.on, .int .i64 o.job, .int .i64 o.badge, .int .i64 o.index, .string o.text, .string o.data, .int .i64 o.nd, .int .i64 o.lf] 33)))
      have HO9 := Lib.hid (Cells.new wr 33 #[.int .i64 o.kind, .int .i64 o.on, .int .i64 o.job, .int .i64 o.badge, .int .i64 o.index, .string o.text, .string o.data, .int .i64 o.nd, .int .i64 o.lf])
      generalize hwO : wr.alloc (.cells #[.int .i64 o.kind, .int .i64 o.on, .int .i64 o.job, .int .i64 o.badge, .int .i64 o.index, .string o.text, .string o.data, .int .i64 o.nd, .int .i64 o.lf] 33) = wO at HS9 HO9 ⊢
      clear hwO
      have q0 := HO9.out.cell (j := 0) rfl
      have q2 := HO9.out.cell (j := 2) rfl
      have q3 := HO9.out.cell (j := 3) rfl
      have q4 := HO9.out.cell (j := 4) rfl
      have q5 := HO9.out.cell (j := 5) rfl
      have q6 := HO9.out.cell (j := 6) rfl
      have q7 := HO9.out.cell (j := 7) rfl
      have q8 := HO9.out.cell (j := 8) rfl
      have HN0 := Lib.hid (show s.news.length < 1073741824 by rw [HNW.out]; decide)
      go_upto_if 33 with (fail)
      go_cut [5] (fun s5 wx => s5 = .int .i64 (k : Int) ∧ ∃ nv' s', RZ w wx g bm nv' s' ga ca pv s.badge s.pieces ∧ s'.far = s.far ∧ ((s' = s) ∨ ∃ j b i t, New s j b i t ∧ s' = s.takeIn j b i t ∧ s'.news = [⟨j, b, i, t⟩]))
      case first =>
        by_cases hk2 : o.kind = 2
        · as_aux_lemma =>
            have t2 : (o.kind == 2) = true := by rw [beq_iff_eq]; exact hk2
            clear hk2
            go_wp2_with fail
            refine (hear_any _ HS9.out.mine.at_ o.nd o.lf o.data (Nat.lt_trans HOF.out.data (by decide)) HN0.out).mono ?_
            rintro x w10 ⟨v10, nv10, rfl, hs, hl, ht, _⟩
            have HX := Lib.hid (HS9.out.step (heard_far s o.data) hs hl ht)
            clear hs hl ht
            go_wp2
            go_meet
            exact ⟨rfl, nv10, _, HX.out, heard_far s o.data, heard_cases s HNW.out o.data⟩
        · as_aux_lemma =>
            have t2 : (o.kind == 2) = false := by rw [beq_eq_false_iff_ne]; exact hk2
            clear hk2
            go_wp2_with fail
            refine (snkPut_any _ HS9.out.mine.at_ o.job o.badge o.index o.text (i64_wf HOF.out.job) HN0.out (Nat.lt_trans HOF.out.text (by decide))).mono ?_
            rintro x w10 ⟨rfl, nv10, hs, hl, ht⟩
            have HX := Lib.hid (HS9.out.step (put_far s o.job o.badge o.index o.text) hs hl ht)
            clear hs hl ht
            go_wp2
            go_meet
            exact ⟨rfl, nv10, _, HX.out, put_far s o.job o.badge o.index o.text, put_cases' s HNW.out _ _ _ _⟩
      case rest =>
        obtain ⟨rfl, nv', s', hR, hfar, hcs⟩ := hcut
        have HR := Lib.hid hR
        have HCS := Lib.hid hcs
        have HFAR := Lib.hid hfar
        clear hR hcs hfar q0 q2 q3 q4 q5 q6 q7 q8
        go_wp2_with fail
        refine (snkTold_any _ HR.out.mine.at_).mono ?_
        rintro x w11 ⟨rfl, hs11, hev, hg11⟩
        have HT := Lib.hid (rz_told HR.out hs11 hg11)
        obtain ⟨A11, c11, hnv⟩ := own_slice hev
        have HEV := Lib.hid hev
        clear hs11 hev hg11
        subst hnv
        rcases HCS.out with hsame | ⟨j, b, i, tx, hnew, hadm, hnews⟩
        · have hlen0 : s'.news.length = 0 := by rw [hsame, HNW.out]; rfl
          rw [hlen0] at HEV
          rw [hlen0]
          have HZ := Lib.hid (show RZ w w11 g bm (.slice none 0 0) { s' with news := [] } ga ca pv ({ s' with news := [] } : Snk).badge ({ s' with news := [] } : Snk).pieces from by
            have := HT.out
            rw [hsame] at this ⊢
            exact this)
          clear hsame hlen0
          go_upto_region 16 with (fail)
          go_loopw [8] (fun i wx => i = .int .i64 0 ∧ wx = w11) (fun _ _ => 0)
          case atStart => exact ⟨rfl, rfl⟩
          case round =>
            obtain ⟨rfl, rfl⟩ := hrel
            go_wp2
            go_roundw
            case rel => exact ⟨k + 1, _, _, ca, pv, by omega, by go_num, rfl, HZ.out⟩
            case measure => simp [intOf]; omega
        · have hlen1 : s'.news.length = 1 := by rw [hnews]; rfl
          obtain ⟨jn, hjn⟩ : ∃ jn : Nat, j = (jn : Int) := ⟨j.toNat, by have := hnew.job; omega⟩
          subst hjn
          have hjb := hnew.job
          have hev : w11.ownsRow 0 45 13 (.slice A11 1 c11) (0 + 1) (([⟨(jn : Int), b, i, tx⟩] : List Evt).flatMap Evt.cells) := by
            have := HEV.out
            unfold Evts at this
            rw [hnews] at this
            exact this
          obtain ⟨ge, ce, hge⟩ := own_some hev
          injection hge with hA _ hc
          subst hA hc
          rw [hlen1]
          clear HEV
          have e0 := hev.cellAt 0 (by decide)
          have e1 := hev.cellAt 1 (by decide)
          have e2 := hev.cellAt 2 (by decide)
          have e3 := hev.cellAt 3 (by decide)
          have e4 := hev.cellAt 4 (by decide)
          have e5 := hev.cellAt 5 (by decide)
          have e6 := hev.cellAt 6 (by decide)
          have e7 := hev.cellAt 7 (by decide)
          have e8 := hev.cellAt 8 (by decide)
          have e9 := hev.cellAt 9 (by decide)
          have e10 := hev.cellAt 10 (by decide)
          have e11 := hev.cellAt 11 (by decide)
          have e12 := hev.cellAt 12 (by decide)
          have HE := Lib.hid (And.intro e0 (And.intro e1 (And.intro e2 (And.intro e3 (And.intro e4 (And.intro e5 (And.intro e6 (And.intro e7 (And.intro e8 (And.intro e9 (And.intro e10 (And.intro e11 e12))))))))))))
          have HNEW := Lib.hid hnew
          have HADM := Lib.hid hadm
          clear hev e0 e1 e2 e3 e4 e5 e6 e7 e8 e9 e10 e11 e12 hnew hadm hlen1 hnews
          go_upto_region 16 with (fail)
          go_loopw [8] (fun i wx => (i = .int .i64 0 ∧ wx = w11) ∨ (i = .int .i64 1 ∧ ∃ s2 c2 pv2, s2.news = [] ∧ RZ w wx g bm (.slice none 0 0) s2 ga c2 pv2 s2.badge s2.pieces)) (fun i _ => 1 - (intOf i).toNat)
          case atStart => exact .inl ⟨rfl, rfl⟩
          case round =>
            rcases hrel with ⟨rfl, rfl⟩ | ⟨rfl, s2, c2, pv2, hn2, hz2⟩
            · obtain ⟨e0, e1, e2, e3, e4, e5, e6, e7, e8, e9, e10, e11, e12⟩ := HE.out
              simp [Evt.cells] at e0 e1 e2 e3 e4 e5 e6 e7 e8 e9 e10 e11 e12
              go_upto_region 19 with (fail)
              clear e0 e1 e2 e3 e4 e5 e6 e7 e8 e9 e10 e11 e12 HE
              have HT2 := Lib.hid (HT.out.keep (below_new0 wr (.cells (Evt.cells ⟨(jn : Int), b, i, tx⟩).toArray 45)))
              have HX2 := Lib.hid (Cells.new wr 45 (Evt.cells ⟨(jn : Int), b, i, tx⟩).toArray)
              simp only [Evt.cells, List.toArray] at HT2 HX2
              generalize wr.alloc (.cells #[.int .i64 13, .int .i64 0, .int .i64 0, .int .i64 0, .int .i64 (jn : Int), .int .i64 b, .int .i64 i, .int .i64 0, .int .i64 0, .int .i64 0, .int .u64 0, .string tx, .slice none 0 0] 45) = wE at HT2 HX2 ⊢
              clear HT
              have y0 := HX2.out.cell (j := 0) rfl
              have y4 := HX2.out.cell (j := 4) rfl
              have y5 := HX2.out.cell (j := 5) rfl
              have y6 := HX2.out.cell (j := 6) rfl
              have y11 := HX2.out.cell (j := 11) rfl
              have hj9 : jn < 9 := by omega
              have z0 := HT2.out.all.cells.cell (HT2.out.all.at0 jn hj9)
              have z1 := HT2.out.all.cells.cell (HT2.out.all.at1 jn hj9)
              have hz := fun j => HT2.out.all.cells.fz j
              obtain ⟨Ap, cp, hpv⟩ := own_slice (HT2.out.all.rows jn hj9)
              rw [hpv] at z1
              have g1 : ¬ (jn : Int) < 1 := by omega
              have g2 : ¬ (8 : Int) < (jn : Int) := by omega
              have g4 : (0 : Int) ≤ (jn : Int) := by omega
              have g5 : (jn : Int) < 9 := by omega
              have hbb := HNEW.out.badge
              have hii := HNEW.out.index
              have hi16 : 0 ≤ i ∧ i ≤ 16 := ⟨hii.1, hii.2.1⟩
              obtain ⟨B, hB⟩ : ∃ B, B = s.badge (jn : Int) := ⟨_, rfl⟩
              rw [← hB] at z0 hbb
              have g3 : ¬ b < B := by omega
              have HB := Lib.hid hB
              clear hB hii hjb
              by_cases hlt2 : B < b
              · as_aux_lemma =>
                  obtain ⟨hi0', htx⟩ := new_first HNEW.out (by rw [← HB.out]; exact hlt2)
                  subst hi0' htx
                  clear hbb hi16 hpv
                  go_quiet (fail)
                  go_wp2
                  go_quiet (fail)
                  go_wp2
                  go_roundw
                  case rel => exact .inr ⟨rfl, _, _, _, rfl, rz_first (HT2.out.keep (below_drewN (Below.refl wE.heap.size wE) _)) hj9 HADM.out⟩
                  case measure => simp [intOf]
              · as_aux_lemma =>
                  obtain ⟨hbe, hie⟩ := new_next HNEW.out (by rw [← HB.out]; exact hlt2)
                  have hnx : (s.pieces (jn : Int)).length ≤ 15 := by omega
                  have g6 : ¬ (16 : Int) < 1 + ((s.pieces (jn : Int)).length : Int) := by omega
                  subst hie
                  have HBE := Lib.hid hbe
                  clear hbb hi16 hbe
                  generalize hnl : (s.pieces (jn : Int)).length = nl at *
                  go_quiet (fail)
                  go_wp2
                  go_quiet (fail)
                  go_wp2
                  go_quiet (fail)
                  go_wp2
                  generalize hwz : World.drewN (World.drewN (World.drewN wE _) _) _ = wz
                  have HT3 := Lib.hid (show RZ w wz g bm (.slice none 0 0) { s' with news := [] } ga ca pv s.badge s.pieces from hwz ▸ HT2.out.keep (below_drewN (below_drewN (below_drewN (Below.refl wE.heap.size wE) _) _) _))
                  have HX3 := Lib.hid (hwz ▸ ((HX2.out.drewN _).drewN _).drewN _ : Cells wz wr.heap.size 45 _)
                  clear y0 y4 y5 y6 y11 z0 z1 hz HT2 HX2 hwz
                  have y4 := HX3.out.cell (j := 4) rfl
                  have y11 := HX3.out.cell (j := 11) rfl
                  have z1 := HT3.out.all.cells.cell (HT3.out.all.at1 jn hj9)
                  rw [hpv] at z1
                  have hrow := HT3.out.all.rows jn hj9
                  rw [hpv, hnl] at hrow
                  have HRW := Lib.hid hrow
                  have HROW := Lib.hid (show (wz.alloc (.cells #[.string tx] 9)).drew.ownsRow w.heap.size 9 1 (.slice Ap nl cp) nl ((s.pieces (jn : Int)).map Value.string) from hrow.alloc _)
                  have HSZ := Lib.hid (show w.heap.size ≤ (wz.alloc (.cells #[.string tx] 9)).drew.heap.size from Nat.le_trans HT3.out.below.size (by simp))
                  have HAL := Lib.hid (World.grownBy_alloc wz (.cells #[.string tx] 9) none)
                  have hb1 : wr.heap.size < wz.heap.size := HX3.out.lt
                  have hb2 : ga < wz.heap.size := HT3.out.all.cells.lt
                  have y4a : (wz.alloc (.cells #[.string tx] 9)).cell? ⟨wr.heap.size, 4, none⟩ = some (.int .i64 (jn : Int)) := (HAL.out.cell_far _ hb1 (by simp)).trans y4
                  have y11a : (wz.alloc (.cells #[.string tx] 9)).cell? ⟨wr.heap.size, 11, none⟩ = some (.string tx) := (HAL.out.cell_far _ hb1 (by simp)).trans y11
                  have z1a : (wz.alloc (.cells #[.string tx] 9)).cell? ⟨ga, jn * 2 + 1, none⟩ = some (.slice Ap nl cp) := (HAL.out.cell_far _ hb2 (by simp)).trans z1
                  have hnews : ∀ (j : Nat) (u : Value), [Value.string tx][j]? = some u → (wz.alloc (.cells #[.string tx] 9)).drew.cell? ((⟨wz.heap.size, 0, none⟩ : Addr).add j) = some u := World.news_of_block (heap_alloc_new wz (.cells #[.string tx] 9))
                  have HNEWS := Lib.hid hnews
                  have hxg : wr.heap.size ≠ ga := block_ne HX3.out HT3.out.all.cells (by decide)
                  clear hrow hb1 hb2 hnews
                  obtain ⟨i1, hq1, hz1, hsz1, hby1⟩ := info_strs
                  refine wp_region_held_drew (S := fun w' => w'.cell? ⟨wr.heap.size, 4, none⟩ = some (.int .i64 (jn : Int)) ∧ w'.cell? ⟨wr.heap.size, 11, none⟩ = some (.string tx)) (by kernel_rfl) ⟨y4, y11⟩ (fun hS => ?_)
                  refine wpAnyH_take (i := 0) (v := ?_) rfl (by kernel_rfl) (by kernel_rfl) (by kernel_rfl) (fun _ _ _ h => h) (Or.inl ⟨by rfl, ?_⟩) hS ?_
                  rotate_left
                  · (intro wx hSx; (try dsimp only at hSx); go_simp; (try with_reducible rfl))
                  simp only [List.getElem_toArray, List.getElem_cons_zero, Act.put, List.setIfInBounds_toArray, List.set_cons_zero, List.set_cons_succ]
                  refine wpAnyH_take (i := 1) (v := ?_) rfl (by kernel_rfl) (by kernel_rfl) (by kernel_rfl) (fun _ _ _ h => h) (Or.inl ⟨by rfl, ?_⟩) hS ?_
                  rotate_left
                  · (intro wx hSx; (try dsimp only at hSx); go_simp; (try with_reducible rfl))
                  simp only [List.getElem_toArray, List.getElem_cons_succ, List.getElem_cons_zero, Act.put, List.setIfInBounds_toArray, List.set_cons_zero, List.set_cons_succ]
                  refine wpAnyH_take (i := 2) (v := ?_) rfl (by kernel_rfl) (by kernel_rfl) (by kernel_rfl) (fun _ _ _ h => h) (Or.inl ⟨by rfl, ?_⟩) hS ?_
                  rotate_left
                  · (intro wx hSx; (try dsimp only at hSx); go_simp; (try with_reducible rfl))
                  simp only [List.getElem_toArray, List.getElem_cons_succ, List.getElem_cons_zero, Act.put, List.setIfInBounds_toArray, List.set_cons_zero, List.set_cons_succ]
                  refine wpAnyH_take (i := 3) (v := ?_) rfl (by kernel_rfl) (by kernel_rfl) (by kernel_rfl) (fun _ _ _ h => h) (Or.inl ⟨by rfl, ?_⟩) hS ?_
                  rotate_left
                  · (intro wx hSx; (try dsimp only at hSx); go_simp; (try with_reducible rfl))
                  simp only [List.getElem_toArray, List.getElem_cons_succ, List.getElem_cons_zero, Act.put, List.setIfInBounds_toArray, List.set_cons_zero, List.set_cons_succ]
                  refine wpAnyH_take (i := 4) (v := ?_) rfl (by kernel_rfl) (by kernel_rfl) (by kernel_rfl) (fun _ _ _ h => h) (Or.inl ⟨by rfl, ?_⟩) hS ?_
                  rotate_left
                  · (intro wx hSx; (try dsimp only at hSx); go_simp; (try with_reducible rfl))
                  simp only [List.getElem_toArray, List.getElem_cons_succ, List.getElem_cons_zero, Act.put, List.setIfInBounds_toArray, List.set_cons_zero, List.set_cons_succ]
                  refine wpAnyH_take (i := 5) (v := ?_) rfl (by kernel_rfl) (by kernel_rfl) (by kernel_rfl) (fun _ _ _ h => h) (Or.inl ⟨by rfl, ?_⟩) hS ?_
                  rotate_left
                  · (intro wx hSx; (try dsimp only at hSx); go_simp; (try with_reducible rfl))
                  simp only [List.getElem_toArray, List.getElem_cons_succ, List.getElem_cons_zero, Act.put, List.setIfInBounds_toArray, List.set_cons_zero, List.set_cons_succ]
                  refine wpAnyH_take (i := 7) (v := ?_) rfl (by kernel_rfl) (by kernel_rfl) (by kernel_rfl) (fun _ _ _ h => h) (Or.inl ⟨by rfl, ?_⟩) hS ?_
                  rotate_left
                  · (intro wx hSx; (try dsimp only at hSx); go_simp; (try with_reducible rfl))
                  simp only [List.getElem_toArray, List.getElem_cons_succ, List.getElem_cons_zero, Act.put, List.setIfInBounds_toArray, List.set_cons_zero, List.set_cons_succ]
                  refine wpAnyH_take (i := 8) (v := ?_) rfl (by kernel_rfl) (by kernel_rfl) (by kernel_rfl) (fun _ _ _ h => h) (Or.inl ⟨by rfl, ?_⟩) hS ?_
                  rotate_left
                  · (intro wx hSx; (try dsimp only at hSx); go_simp; (try with_reducible rfl))
                  simp only [List.getElem_toArray, List.getElem_cons_succ, List.getElem_cons_zero, Act.put, List.setIfInBounds_toArray, List.set_cons_zero, List.set_cons_succ]
                  refine wpAnyH_ready (rs := [6, 9]) (by kernel_rfl) (by simp) ?_
                  refine AllReadyH.cons rfl (fun K hK => ?_) (AllReadyH.cons rfl (fun K hK => ?_) AllReadyH.nil)
                  · go_simp
                    refine hK.out _ _ (by first | exact ⟨y4, y11⟩ | exact ⟨y4a, y11a⟩ | exact ⟨HX4.out.cell (j := 4) rfl, HX4.out.cell (j := 11) rfl⟩ | exact ⟨(HX4.out.far hxg _).cell (j := 4) rfl, (HX4.out.far hxg _).cell (j := 11) rfl⟩) (fun hS => ?_)
                    clear hK K
                    try simp only [Act.put, List.setIfInBounds_toArray, List.set_cons_zero, List.set_cons_succ]
                    refine wpAnyH_ready (rs := [9]) (by kernel_rfl) (by simp) ?_
                    refine AllReadyH.cons rfl (fun K hK => ?_) AllReadyH.nil
                    go_simp
                    refine hK.out _ _ (by first | exact ⟨y4, y11⟩ | exact ⟨y4a, y11a⟩ | exact ⟨HX4.out.cell (j := 4) rfl, HX4.out.cell (j := 11) rfl⟩ | exact ⟨(HX4.out.far hxg _).cell (j := 4) rfl, (HX4.out.far hxg _).cell (j := 11) rfl⟩) (fun hS => ?_)
                    clear hK K
                    try simp only [Act.put, List.setIfInBounds_toArray, List.set_cons_zero, List.set_cons_succ]
                    refine wpAnyH_ready (rs := [10]) (by kernel_rfl) (by simp) ?_
                    refine AllReadyH.cons rfl (fun K hK => ?_) AllReadyH.nil
                    refine step_append_lies _ rfl (.tmp 131) (.tmp 134) 26 rfl w.heap.size 9 i1 _ 1 16 Try.underlying26 hq1 hz1 hsz1 hby1 rfl (by decide) (.slice Ap nl cp) nl _ rfl HROW.out (ad := ⟨wz.heap.size, 0, none⟩) (m := 1) (c := 1) (news := [.string tx]) (hx := rfl) (hl := rfl) (hnews := HNEWS.out) (h1 := by simp [Value.oneCell']) (hm := by decide) (h63 := by unfold maxLen; omega) (hbytes := by omega) (hbase := HSZ.out) (H := _) (hH := rfl) (h := ?_)
                    intro g' cap' W4 ho hgr hat hlt4
                    have HGR := Lib.hid (rz_grown wz (.cells #[.string tx] 9) hgr)
                    have HC4 := Lib.hid (rz_cells HT3.out hj9 (by rw [hpv]; exact HGR.out))
                    have z1' := HC4.out.cell (HT3.out.all.at1 jn hj9)
                    have f1' := HC4.out.fz (jn * 2 + 1)
                    rw [hpv] at z1'
                    have HX4 := Lib.hid (row_cells HRW.out HGR.out HX3.out (by decide))
                    refine hK.out _ _ (by first | exact ⟨y4, y11⟩ | exact ⟨y4a, y11a⟩ | exact ⟨HX4.out.cell (j := 4) rfl, HX4.out.cell (j := 11) rfl⟩ | exact ⟨(HX4.out.far hxg _).cell (j := 4) rfl, (HX4.out.far hxg _).cell (j := 11) rfl⟩) (fun hS => ?_)
                    clear hK K
                    try simp only [Act.put, List.setIfInBounds_toArray]
                    refine wpAnyH_take (i := 11) (v := ?_) rfl (by kernel_rfl) (by kernel_rfl) (by kernel_rfl) (fun _ _ _ h => h) (Or.inl ⟨by rfl, ?_⟩) hS ?_
                    rotate_left
                    · (intro wx hSx; (try dsimp only at hSx); go_simp; (try with_reducible rfl))
                    simp only [List.getElem_toArray, List.getElem_cons_succ, List.getElem_cons_zero, Act.put, List.setIfInBounds_toArray, List.set_cons_zero, List.set_cons_succ]
                    refine wpAnyH_take (i := 12) (v := ?_) rfl (by kernel_rfl) (by kernel_rfl) (by kernel_rfl) (fun _ _ _ h => h) (Or.inl ⟨by rfl, ?_⟩) hS ?_
                    rotate_left
                    · (intro wx hSx; (try dsimp only at hSx); go_simp; (try with_reducible rfl))
                    simp only [List.getElem_toArray, List.getElem_cons_succ, List.getElem_cons_zero, Act.put, List.setIfInBounds_toArray, List.set_cons_zero, List.set_cons_succ]
                    refine wpAnyH_ready (rs := [13]) (by kernel_rfl) (by simp) ?_
                    refine AllReadyH.cons rfl (fun K hK => ?_) AllReadyH.nil
                    go_simp
                    refine hK.out _ _ (by first | exact ⟨y4, y11⟩ | exact ⟨y4a, y11a⟩ | exact ⟨HX4.out.cell (j := 4) rfl, HX4.out.cell (j := 11) rfl⟩ | exact ⟨(HX4.out.far hxg _).cell (j := 4) rfl, (HX4.out.far hxg _).cell (j := 11) rfl⟩) (fun hS => ?_)
                    clear hK K
                    try simp only [Act.put, List.setIfInBounds_toArray, List.set_cons_zero, List.set_cons_succ]
                    refine wpAnyH_done (by kernel_rfl) ?_ _
                    obtain ⟨s3, c3, pv3, hn3, hz3⟩ := rz_next HT3.out hj9 (v' := .slice (some ⟨g', 0, none⟩) (nl + 1) cap') (i := 1 + (nl : Int)) (by omega) HBE.out HADM.out (by rw [hpv]; exact HGR.out) (by rw [hnl]; exact ho) (by rw [hpv]; exact rz_at hlt4 hat)
                    have HZ3 := Lib.hid hz3
                    clear ho hgr hat z1' f1' HX4 y4a y11a z1a y4 y11 z1
                    go_wp2
                    go_roundw
                    case rel => exact .inr ⟨rfl, s3, c3, pv3, hn3, HZ3.out⟩
                    case measure => simp [intOf]
                  · go_simp
                    refine hK.out _ _ (by first | exact ⟨y4, y11⟩ | exact ⟨y4a, y11a⟩ | exact ⟨HX4.out.cell (j := 4) rfl, HX4.out.cell (j := 11) rfl⟩ | exact ⟨(HX4.out.far hxg _).cell (j := 4) rfl, (HX4.out.far hxg _).cell (j := 11) rfl⟩) (fun hS => ?_)
                    clear hK K
                    try simp only [Act.put, List.setIfInBounds_toArray, List.set_cons_zero, List.set_cons_succ]
                    refine wpAnyH_ready (rs := [6]) (by kernel_rfl) (by simp) ?_
                    refine AllReadyH.cons rfl (fun K hK => ?_) AllReadyH.nil
                    go_simp
                    refine hK.out _ _ (by first | exact ⟨y4, y11⟩ | exact ⟨y4a, y11a⟩ | exact ⟨HX4.out.cell (j := 4) rfl, HX4.out.cell (j := 11) rfl⟩ | exact ⟨(HX4.out.far hxg _).cell (j := 4) rfl, (HX4.out.far hxg _).cell (j := 11) rfl⟩) (fun hS => ?_)
                    clear hK K
                    try simp only [Act.put, List.setIfInBounds_toArray, List.set_cons_zero, List.set_cons_succ]
                    refine wpAnyH_ready (rs := [10]) (by kernel_rfl) (by simp) ?_
                    refine AllReadyH.cons rfl (fun K hK => ?_) AllReadyH.nil
                    refine step_append_lies _ rfl (.tmp 131) (.tmp 134) 26 rfl w.heap.size 9 i1 _ 1 16 Try.underlying26 hq1 hz1 hsz1 hby1 rfl (by decide) (.slice Ap nl cp) nl _ rfl HROW.out (ad := ⟨wz.heap.size, 0, none⟩) (m := 1) (c := 1) (news := [.string tx]) (hx := rfl) (hl := rfl) (hnews := HNEWS.out) (h1 := by simp [Value.oneCell']) (hm := by decide) (h63 := by unfold maxLen; omega) (hbytes := by omega) (hbase := HSZ.out) (H := _) (hH := rfl) (h := ?_)
                    intro g' cap' W4 ho hgr hat hlt4
                    have HGR := Lib.hid (rz_grown wz (.cells #[.string tx] 9) hgr)
                    have HC4 := Lib.hid (rz_cells HT3.out hj9 (by rw [hpv]; exact HGR.out))
                    have z1' := HC4.out.cell (HT3.out.all.at1 jn hj9)
                    have f1' := HC4.out.fz (jn * 2 + 1)
                    rw [hpv] at z1'
                    have HX4 := Lib.hid (row_cells HRW.out HGR.out HX3.out (by decide))
                    refine hK.out _ _ (by first | exact ⟨y4, y11⟩ | exact ⟨y4a, y11a⟩ | exact ⟨HX4.out.cell (j := 4) rfl, HX4.out.cell (j := 11) rfl⟩ | exact ⟨(HX4.out.far hxg _).cell (j := 4) rfl, (HX4.out.far hxg _).cell (j := 11) rfl⟩) (fun hS => ?_)
                    clear hK K
                    try simp only [Act.put, List.setIfInBounds_toArray]
                    refine wpAnyH_take (i := 11) (v := ?_) rfl (by kernel_rfl) (by kernel_rfl) (by kernel_rfl) (fun _ _ _ h => h) (Or.inl ⟨by rfl, ?_⟩) hS ?_
                    rotate_left
                    · (intro wx hSx; (try dsimp only at hSx); go_simp; (try with_reducible rfl))
                    simp only [List.getElem_toArray, List.getElem_cons_succ, List.getElem_cons_zero, Act.put, List.setIfInBounds_toArray, List.set_cons_zero, List.set_cons_succ]
                    refine wpAnyH_take (i := 12) (v := ?_) rfl (by kernel_rfl) (by kernel_rfl) (by kernel_rfl) (fun _ _ _ h => h) (Or.inl ⟨by rfl, ?_⟩) hS ?_
                    rotate_left
                    · (intro wx hSx; (try dsimp only at hSx); go_simp; (try with_reducible rfl))
                    simp only [List.getElem_toArray, List.getElem_cons_succ, List.getElem_cons_zero, Act.put, List.setIfInBounds_toArray, List.set_cons_zero, List.set_cons_succ]
                    refine wpAnyH_ready (rs := [13]) (by kernel_rfl) (by simp) ?_
                    refine AllReadyH.cons rfl (fun K hK => ?_) AllReadyH.nil
                    go_simp
                    refine hK.out _ _ (by first | exact ⟨y4, y11⟩ | exact ⟨y4a, y11a⟩ | exact ⟨HX4.out.cell (j := 4) rfl, HX4.out.cell (j := 11) rfl⟩ | exact ⟨(HX4.out.far hxg _).cell (j := 4) rfl, (HX4.out.far hxg _).cell (j := 11) rfl⟩) (fun hS => ?_)
                    clear hK K
                    try simp only [Act.put, List.setIfInBounds_toArray, List.set_cons_zero, List.set_cons_succ]
                    refine wpAnyH_done (by kernel_rfl) ?_ _
                    obtain ⟨s3, c3, pv3, hn3, hz3⟩ := rz_next HT3.out hj9 (v' := .slice (some ⟨g', 0, none⟩) (nl + 1) cap') (i := 1 + (nl : Int)) (by omega) HBE.out HADM.out (by rw [hpv]; exact HGR.out) (by rw [hnl]; exact ho) (by rw [hpv]; exact rz_at hlt4 hat)
                    have HZ3 := Lib.hid hz3
                    clear ho hgr hat z1' f1' HX4 y4a y11a z1a y4 y11 z1
                    go_wp2
                    go_roundw
                    case rel => exact .inr ⟨rfl, s3, c3, pv3, hn3, HZ3.out⟩
                    case measure => simp [intOf]
            · have HZ := Lib.hid hz2
              have HN2 := Lib.hid hn2
              clear hz2 hn2
              go_wp2
              go_roundw
              case rel => exact ⟨k + 1, _, s2, c2, pv2, by omega, by go_num, HN2.out, HZ.out⟩
              case measure => simp [intOf]; omega
    · as_aux_lemma =>
        obtain rfl : k = l.length := by omega
        have hi1 : ¬ ((l.length : Int) < (l.length : Int)) := by omega
        go_wp2_with fail
        refine (artefacts_any _ HP.out.mine.at_).mono ?_
        rintro x w12 ⟨v12, L, rfl, ha12, hb12⟩
        obtain ⟨A12, c12, rfl⟩ := own_slice ha12.row
        have HQ := Lib.hid (show RZ w w12 g bm nv s ga ca pv s.badge s.pieces ∧ ArtsOut w12 wr.heap.size _ L s from ⟨HP.out.keep hb12, ha12⟩)
        have HL := Lib.hid ha12.len
        clear ha12 hb12
        go_upto_region 31 with (fail)
        go_loopw [12, 11] (fun jb kv wx => ∃ (j k m : Nat), 1 ≤ j ∧ j ≤ 9 ∧ jb = .int .i64 (j : Int) ∧ kv = .int .i64 (k : Int) ∧ k ≤ L.length ∧ wx = w12.drewN m ∧ (L.map (·.1)).drop k = ((List.finRange 9).drop j).filter (fun i => (s.art (i.val : Int)).isSome)) (fun jb _ _ => 9 - (intOf jb).toNat)
        case atStart => exact ⟨1, 0, 0, by omega, by omega, rfl, rfl, by omega, rfl, by rw [HQ.out.2.jobs]; exact jobs_start HQ.out.1.mine.at_.fit⟩
        case round =>
          obtain ⟨j, k, m, hj1, hj9, rfl, rfl, hk, rfl, hdrop⟩ := hrel
          have HD := Lib.hid hdrop
          have hl9 := HL.out
          clear hdrop
          by_cases hj8 : j ≤ 8
          · have hjl : j < 9 := by omega
            have g1 : (j : Int) ≤ 8 := by omega
            have g2 : (0 : Int) ≤ (j : Int) := by omega
            have g3 : (j : Int) < 9 := by omega
            have z0 : (w12.drewN m).cell? ⟨ga, j * 2, none⟩ = some (.int .i64 (s.badge j)) := HQ.out.1.all.cells.cell (HQ.out.1.all.at0 j hjl)
            have HSTEP := Lib.hid (drop_step j hjl)
            cases ha : s.art (j : Int) with
            | none =>
              have hb0 : s.badge (j : Int) = 0 := by unfold Snk.badge; rw [ha]
              rw [hb0] at z0
              have HD2 := Lib.hid (show (L.map (·.1)).drop k = ((List.finRange 9).drop (j + 1)).filter (fun i => (s.art (i.val : Int)).isSome) from by
                rw [HD.out, HSTEP.out, List.filter_cons_of_neg (by simp [ha])])
              clear ha hb0
              generalize hwz : w12.drewN m = wz at *
              go_wp2
              go_roundw
              case rel => exact ⟨j + 1, k, m, by omega, by omega, by go_num, rfl, by omega, hwz.symm, HD2.out⟩
              case measure => simp [intOf]; omega
            | some a =>
              have hdc : (L.map (·.1)).drop k = ⟨j, hjl⟩ :: ((List.finRange 9).drop (j + 1)).filter (fun i => (s.art (i.val : Int)).isSome) := by
                rw [HD.out, HSTEP.out, List.filter_cons_of_pos (by simp [ha])]
              have hkl : k < L.length := by
                have := congrArg List.length hdc
                simp at this
                omega
              have HD2 := Lib.hid (show (L.map (·.1)).drop (k + 1) = ((List.finRange 9).drop (j + 1)).filter (fun i => (s.art (i.val : Int)).isSome) from by
                rw [← List.drop_drop, hdc]
                rfl)
              have hxk : (L.map (·.1))[k]? = some ⟨j, hjl⟩ := by
                have := congrArg (fun l : List (Fin 9) => l[0]?) hdc
                simpa using this
              obtain ⟨ge, j', b, ae, na, ce, lp, he⟩ := HQ.out.2.elem HQ.out.1.mine.at_.fit hkl
              obtain ⟨y, hy, hyj⟩ := he.job
              have hjj : j' = ⟨j, hjl⟩ := by
                rw [List.getElem?_map, hy] at hxk
                simpa [hyj] using hxk
              subst hjj
              have hart := he.art
              rw [show ((⟨j, hjl⟩ : Fin 9).val : Int) = (j : Int) from rfl, ha] at hart
              injection hart with hart
              subst hart
              have hB : s.badge (j : Int) = b := by unfold Snk.badge; rw [ha]
              have hP : s.pieces (j : Int) = lp := by unfold Snk.pieces; rw [ha]
              have hbg : 1 ≤ b := (HQ.out.1.mine.at_.fit.badge _ _ ha).1
              have hpl : lp.length ≤ 16 := he.len.2
              rw [hB] at z0
              obtain ⟨Ap, cp, hpv⟩ := own_slice (HQ.out.1.all.rows j hjl)
              have z1 : (w12.drewN m).cell? ⟨ga, j * 2 + 1, none⟩ = some (pv j) := HQ.out.1.all.cells.cell (HQ.out.1.all.at1 j hjl)
              have hs2 : Strs w12 (pv j) lp := by
                have := HQ.out.1.all.rows j hjl
                rw [hP] at this
                exact this.mono (Nat.zero_le _)
              rw [hpv] at z1 hs2
              have HC := Lib.hid fun mm => sameTexts_any ((w12.drewN m).drewN mm) (show Strs ((w12.drewN m).drewN mm) _ lp from he.strs) (show Strs ((w12.drewN m).drewN mm) _ lp from hs2) (by omega)
              have hA := he.addr
              subst hA
              have e0 : (w12.drewN m).cell? ⟨ge, k * 3, none⟩ = some (.int .i64 (j : Int)) := he.c0
              have e1 : (w12.drewN m).cell? ⟨ge, k * 3 + 1, none⟩ = some (.int .i64 b) := he.c1
              have e2 : (w12.drewN m).cell? ⟨ge, k * 3 + 2, none⟩ = some (.slice ae na ce) := he.c2
              have hbb : (b == 0) = false := by rw [beq_eq_false_iff_ne]; omega
              have g4 : ¬ (L.length : Int) ≤ (k : Int) := by omega
              have g5 : (0 : Int) ≤ (k : Int) := by omega
              have g6 : (k : Int) < (L.length : Int) := by omega
              clear ha hdc hxk hy hyj hB hP hbg hpl hpv hs2 he
              generalize hwz : w12.drewN m = wz at *
              go_wp2
              go_quiet ((go_at_call 12; refine Calls.quiet_of (HC.out _)))
              go_wp2
              go_roundw
              case rel => exact ⟨j + 1, k + 1, _, by omega, by omega, by go_num, by go_num, by omega, by rw [← hwz]; first | rfl | (rw [World.drewN_drewN]), HD2.out⟩
              case measure => simp [intOf]; omega
          · obtain rfl : j = 9 := by omega
            have hkl : k = L.length := by
              have h := congrArg List.length HD.out
              rw [show ((List.finRange 9).drop 9) = [] from by decide] at h
              simp at h
              omega
            subst hkl
            have g1 : ¬ ((9 : Nat) : Int) ≤ 8 := by omega
            have HBL := Lib.hid (below_drewN HQ.out.1.below m)
            clear HQ
            generalize w12.drewN m = wz at *
            go_wp2
            go_ret
            exact ⟨by simp, HBL.out⟩

-- LIFT
set_option maxRecDepth 100000 in
theorem contract (H : Type) (enc : TypeId × Value → H) (W : World) (base : Nat) (args : Array Value) (ds gs : List (DataW H)) (before : List MemPlace)
    (hval : ∀ (j : Nat) t v, Try.f3.params[j]? = some t → args[j]? = some v → Value.okWide Try.prog W .any base t v)
    (hW : DataW.Whole enc Try.prog Try.f3.params.toList Rows.sinkRisesSpec.vars false W args.toList ds gs before) (hk : Rows.uptoSmall H (ds ++ gs) = true) :
    Calls Try.prog 3 args W fun e W' => ∃ v, e = .returned v ∧ Rows.sinkRisesSpec.post enc Try.prog Try.f3 false true false false W args v W' := by
  have hts : Try.f3.params.toList.all (fun t => Try.prog.readableRec t && decide (t < Try.prog.types.size)) = true := by kernel_rfl
  have hW' := hW
  obtain ⟨p, q, hA0, hV, rfl, hfz, hnd⟩ := hW
  have hA : DataW.TrodAll enc Try.prog W 0 (fun _ => true) true Try.f3.params.toList args.toList ds p := hA0
  rw [Try.params3] at hA hval
  obtain ⟨v0, vs0, d0, ds0, p0, q0, hargs, rfl, rfl, h0, r0⟩ := trodAll_cons hA
  obtain ⟨rfl, rfl, rfl⟩ := trodAll_nil r0
  obtain rfl : args = #[v0] := by cases args; simp_all
  obtain ⟨rfl, rfl⟩ := trodVars_none hV
  have hfn : Rows.sinkRisesSpec.fn H ([d0] ++ []) = { results := [.lit (.bool true)], args := [d0] } := rfl
  have hfin := fun W' (hbel : Below W.heap.size W W') => law_post (f := Try.f3) (s := Rows.sinkRisesSpec) 4 Try.laid hts rfl Try.underlying4 rfl hfn hW' hbel
  clear hA0 hts hfn
  simp only [List.append_nil] at hk
  obtain ⟨A0, c0, l0, rfl, sl0, fit0, len0⟩ := open_sops (hval 0 22 v0 rfl rfl) h0 (bulk_mem hk _ (by simp))
  exact (walk A0 c0 l0 W sl0 fit0 (by omega)).mono fun e W' ⟨he, hg⟩ => ⟨_, he, hfin W' hg⟩

set_option maxRecDepth 100000 in
theorem lifted (os : Os) (started : os.Started) (H : Type) (enc : TypeId × Value → H) (F : Stop.Interp) :
    ReturnsInHanded {} Try.checked os 3 .any ((Rows.OpenSpec.upto Rows.sinkRisesSpec).pre6 enc Try.prog Try.f3 Rows.sinkRisesUptoRow.domain false) (((Rows.OpenSpec.upto Rows.sinkRisesSpec).at F).post enc Try.prog Try.f3 false true false false) := by
  refine returnsInHanded_of_cond (C := Try.checked) (s := Rows.OpenSpec.upto Rows.sinkRisesSpec) (k := Rows.uptoSmall) rfl Try.own started (by kernel_rfl) Try.func3
    (OpenSpec.witness (enc := enc) (C := Try.checked) (s := Rows.OpenSpec.upto Rows.sinkRisesSpec) (k := Rows.uptoSmall) rfl false ⟨#[], #[.slice none 0 0], []⟩ 8 (by kernel_rfl) (by kernel_rfl) (by kernel_rfl)
      (x := ([.nil], [], [])) (by kernel_rfl) rfl (by kernel_rfl)) ?_
  intro W base args ds gs before hval hW _ hk _
  exact contract H enc W base args ds gs before hval hW hk

theorem proved : Rows.SinkRisesUptoSaid :=
  OpenClaim.holds_of_cond 3 Try.f3 rfl rfl rfl rfl rfl rfl rfl ⟨rfl, rfl, rfl, rfl, rfl⟩ rfl rfl rfl rfl rfl (by kernel_rfl) Try.func3 (by kernel_rfl)
    (of_decide_eq_true (by kernel_rfl)) (by unfold Func.isWrapper; first | (rw [if_pos (by decide +kernel)]; kernel_rfl) | (rw [if_neg (by decide +kernel)]; exact ⟨rfl, rfl⟩))
    (fun os started H enc _ F => lifted os started H enc F)

end Go.Proofs.Ytpnfdmglhonkmaa.sinkRises
