/- The sink, plain; what a sink's memory says. -/
import Derived.Test.YtpnfdmglhonkmaaElem
import Derived.Test.YtpnfdmglhonkmaaPk
set_option maxRecDepth 100000
namespace Go.Proofs.Ytpnfdmglhonkmaa
open Go.RowKit Go.Maps

structure Art where
  badge : Int
  pieces : List ByteArray

structure Evt where
  job : Int
  badge : Int
  index : Int
  text : ByteArray

/-- far: blocks in which none of its pieces lie (told by its owner) -/
structure Snk where
  art : Int → Option Art
  news : List Evt
  far : List Nat

namespace Snk
def none : Snk := ⟨fun _ => .none, [], []⟩
def count (s : Snk) (job badge : Int) : Nat :=
  match s.art job with
  | some a => if a.badge = badge then 1 + a.pieces.length else 0
  | .none => 0
def badge (s : Snk) (job : Int) : Int :=
  match s.art job with
  | some a => a.badge
  | .none => 0
def pieces (s : Snk) (job : Int) : List ByteArray :=
  match s.art job with
  | some a => a.pieces
  | .none => []
def takeIn (s : Snk) (job badge index : Int) (text : ByteArray) : Snk :=
  ⟨fun j => if j = job then some ⟨badge, if index = 0 then [] else s.pieces job ++ [text]⟩ else s.art j, s.news ++ [⟨job, badge, index, text⟩], s.far⟩
/-- which error a Put answers -/
def err (s : Snk) (job badge index : Int) (text : ByteArray) : Int :=
  if job < 1 ∨ 8 < job then 160
  else if 32 < text.size ∨ (index = 0 ∧ text ≠ ⟨#[]⟩) then 163
  else if badge < 1 ∨ 1099511627776 < badge ∨ badge < s.badge job then 161
  else if index < 0 ∨ 16 < index ∨ (s.count job badge : Int) < index then 162
  else 0
/-- is it admitted? -/
def new (s : Snk) (job badge index : Int) (text : ByteArray) : Bool := decide (s.err job badge index text = 0 ∧ ¬ index < (s.count job badge : Int))
def put (s : Snk) (job badge index : Int) (text : ByteArray) : Snk := if s.new job badge index text = true then s.takeIn job badge index text else s
/-- the count that a Put answers -/
def said (s : Snk) (job badge index : Int) (text : ByteArray) : Int := if s.err job badge index text = 0 then (if s.new job badge index text = true then (s.count job badge : Int) + 1 else s.count job badge) else 0

structure Fit (s : Snk) : Prop where
  job : ∀ j a, s.art j = some a → 1 ≤ j ∧ j ≤ 8
  badge : ∀ j a, s.art j = some a → 1 ≤ a.badge ∧ a.badge ≤ 1099511627776
  pieces : ∀ j a, s.art j = some a → a.pieces.length ≤ 16

theorem Fit.count {s : Snk} (h : s.Fit) (j b : Int) : s.count j b ≤ 17 := by
  unfold Snk.count
  split
  · rename_i a ha
    have := h.pieces j a ha
    split <;> omega
  · omega

theorem fit_none : Snk.none.Fit := Fit.mk (fun _ _ h => by simp [Snk.none] at h) (fun _ _ h => by simp [Snk.none] at h) (fun _ _ h => by simp [Snk.none] at h)

theorem pieces_count {s : Snk} {job badge : Int} (h0 : s.count job badge ≠ 0) : ∃ a, s.art job = some a ∧ a.badge = badge ∧ s.count job badge = 1 + a.pieces.length := by
  unfold Snk.count at h0 ⊢
  cases h : s.art job with
  | none => rw [h] at h0; simp at h0
  | some a =>
    rw [h] at h0
    simp only at h0 ⊢
    by_cases hb : a.badge = badge
    · exact ⟨a, rfl, hb, if_pos hb⟩
    · rw [if_neg hb] at h0
      exact absurd rfl h0

theorem Fit.put {s : Snk} (h : s.Fit) (job badge index : Int) (text : ByteArray) : (s.put job badge index text).Fit := by
  unfold Snk.put
  split
  · rename_i hn
    simp only [Snk.new, decide_eq_true_eq] at hn
    obtain ⟨he, hi⟩ := hn
    unfold Snk.err at he
    split at he
    · simp at he
    split at he
    · simp at he
    split at he
    · simp at he
    split at he
    · simp at he
    refine ⟨fun j a ha => ?_, fun j a ha => ?_, fun j a ha => ?_⟩ <;> simp only [Snk.takeIn] at ha <;> split at ha
    · omega
    · exact h.job j a ha
    · injection ha with ha
      subst ha
      simp only
      omega
    · exact h.badge j a ha
    · injection ha with ha
      subst ha
      simp only
      split
      · simp
      · have hc : s.count job badge ≠ 0 := by omega
        obtain ⟨a, h1, h2, h3⟩ := pieces_count hc
        simp only [Snk.pieces, h1, List.length_append, List.length_cons, List.length_nil]
        omega
    · exact h.pieces j a ha
  · exact h
end Snk

def Evt.cells (e : Evt) : List Value := [.int .i64 13, .int .i64 0, .int .i64 0, .int .i64 0, .int .i64 e.job, .int .i64 e.badge, .int .i64 e.index, .int .i64 0, .int .i64 0, .int .i64 0, .int .u64 0, .string e.text, .slice none 0 0]

/-- a slice of texts -/
def Strs (w : World) (v : Value) (l : List ByteArray) : Prop := w.ownsRow 0 9 1 v l.length (l.map Value.string)
def Evts (w : World) (v : Value) (l : List Evt) : Prop := w.ownsRow 0 45 13 v l.length (l.flatMap Evt.cells)

/-- the map's elements, by the sink's artefacts -/
def Arts (w : World) (art : Int → Option Art) (far : List Nat) (f : Int → Option Value) : Prop :=
  ∀ j, match art j with
    | none => f j = none
    | some a => ∃ sl, f j = some (.agg #[.int .i64 j, .int .i64 a.badge, sl]) ∧ Strs w sl a.pieces ∧ ∀ k ∈ far, sl.ownBlock ≠ some k

/-- block g is a sink that has s: its map lies in bm, its news are nv -/
structure SnkAt (w : World) (g bm : Nat) (nv : Value) (s : Snk) : Prop where
  cells : Cells w g 57 #[.map (some bm), nv]
  map : ∃ f, MapAt Try.prog 3 w bm f ∧ Arts w s.art s.far f
  news : Evts w nv s.news
  fit : s.Fit
  far : ∀ k ∈ s.far, k < w.heap.size

/-- the blocks that a sink may turn -/
def ownBlocks (g bm : Nat) (nv : Value) : List Nat := g :: bm :: (match nv.ownBlock with | some k => [k] | none => [])

section
variable {w w' : World} {g bm : Nat} {nv : Value} {s : Snk}

theorem Strs.below {v : Value} {l : List ByteArray} (h : Strs w v l) (hb : Below w.heap.size w w') : Strs w' v l := own_kept h hb
theorem Strs.turns {v : Value} {l : List ByteArray} {S : List Nat} (h : Strs w v l) (ht : Turns S w w') (hS : ∀ x ∈ S, ∀ c fr, w.heap[x]? ≠ some (.cells c 9 fr)) : Strs w' v l := by
  refine ⟨h.1, ?_⟩
  rcases h.2 with hn | ⟨k, cap, cur, rfl, hb, hg, rest⟩
  · exact .inl hn
  · exact .inr ⟨k, cap, cur, rfl, hb, (ht.block k (lt_of_block hg) fun hm => hS k hm _ _ hg).trans hg, rest⟩
theorem Strs.turnsB {v : Value} {l : List ByteArray} {S : List Nat} (h : Strs w v l) (ht : Turns S w w') (hS : ∀ k, v.ownBlock = some k → k ∉ S) : Strs w' v l := by
  refine ⟨h.1, ?_⟩
  rcases h.2 with hn | ⟨k, cap, cur, rfl, hb, hg, rest⟩
  · exact .inl hn
  · exact .inr ⟨k, cap, cur, rfl, hb, (ht.block k (lt_of_block hg) (hS k rfl)).trans hg, rest⟩
/-- .. where what turns is far, or holds no texts -/
theorem Arts.turnsF {art : Int → Option Art} {far : List Nat} {f : Int → Option Value} {S : List Nat} (h : Arts w art far f) (ht : Turns S w w') (hS : ∀ x ∈ S, x ∈ far ∨ ∀ c fr, w.heap[x]? ≠ some (.cells c 9 fr)) : Arts w' art far f := by
  intro j
  have hj := h j
  cases ha : art j with
  | none =>
    rw [ha] at hj
    exact hj
  | some a =>
    rw [ha] at hj
    obtain ⟨sl, h1, h2, h3⟩ := hj
    refine ⟨sl, h1, h2.turnsB ht fun k hk hm => ?_, h3⟩
    rcases hS k hm with hf | hf
    · exact h3 k hf hk
    · obtain ⟨cur, hcur⟩ := own_block_type h2 hk
      exact hf _ _ hcur
theorem Arts.turns {art : Int → Option Art} {far : List Nat} {f : Int → Option Value} {S : List Nat} (h : Arts w art far f) (ht : Turns S w w') (hS : ∀ x ∈ S, ∀ c fr, w.heap[x]? ≠ some (.cells c 9 fr)) : Arts w' art far f :=
  h.turnsF ht fun x hx => .inr (hS x hx)
theorem SnkAt.turnsF {S : List Nat} (h : SnkAt w g bm nv s) (ht : Turns S w w') (hg : g ∉ S) (hbm : bm ∉ S) (hnv : ∀ k, nv.ownBlock = some k → k ∉ S) (hS : ∀ x ∈ S, x ∈ s.far ∨ ∀ c fr, w.heap[x]? ≠ some (.cells c 9 fr)) : SnkAt w' g bm nv s := by
  obtain ⟨f, hm, ha⟩ := h.map
  refine ⟨h.cells.turns ht hg, ⟨f, hm.block (ht.block bm hm.lt hbm), ha.turnsF ht hS⟩, ?_, h.fit, fun k hk => Nat.lt_of_lt_of_le (h.far k hk) ht.size⟩
  refine ⟨h.news.1, ?_⟩
  rcases h.news.2 with hn | ⟨k, cap, cur, rfl, hb, hk, rest⟩
  · exact .inl hn
  · exact .inr ⟨k, cap, cur, rfl, hb, (ht.block k (lt_of_block hk) (hnv k rfl)).trans hk, rest⟩
theorem SnkAt.turns {S : List Nat} (h : SnkAt w g bm nv s) (ht : Turns S w w') (hg : g ∉ S) (hbm : bm ∉ S) (hnv : ∀ k, nv.ownBlock = some k → k ∉ S) (hS : ∀ x ∈ S, ∀ c fr, w.heap[x]? ≠ some (.cells c 9 fr)) : SnkAt w' g bm nv s :=
  h.turnsF ht hg hbm hnv fun x hx => .inr (hS x hx)
/-- a block that is new is far from its pieces -/
theorem SnkAt.farther {S : List Nat} (h : SnkAt w g bm nv s) (ht : Turns S w w') (hg : g ∉ S) (hbm : bm ∉ S) (hnv : ∀ k, nv.ownBlock = some k → k ∉ S) (hS : ∀ x ∈ S, x ∈ s.far ∨ ∀ c fr, w.heap[x]? ≠ some (.cells c 9 fr)) {k : Nat} (hk : w.heap.size ≤ k) (hk' : k < w'.heap.size) : SnkAt w' g bm nv { s with far := k :: s.far } := by
  have hn := h.turnsF ht hg hbm hnv hS
  obtain ⟨f, hm, ha⟩ := h.map
  refine ⟨hn.cells, ⟨f, hm.block (ht.block bm hm.lt hbm), ?_⟩, hn.news, ⟨h.fit.job, h.fit.badge, h.fit.pieces⟩, fun x hx => ?_⟩
  · intro j
    have hj := ha.turnsF ht hS j
    have hj0 := ha j
    show match s.art j with | none => _ | some a => _
    cases hs : s.art j with
    | none =>
      rw [hs] at hj
      exact hj
    | some a =>
      rw [hs] at hj hj0
      obtain ⟨sl, e1, e2, e3⟩ := hj
      obtain ⟨sl0, d1, d2, d3⟩ := hj0
      rw [d1] at e1
      injection e1 with e1
      injection e1 with e1
      obtain rfl : sl0 = sl := by simpa using e1
      refine ⟨sl0, d1, e2, fun x hx hsx => ?_⟩
      rcases List.mem_cons.1 hx with rfl | hx
      · have := (d2.lt _ hsx).2
        omega
      · exact d3 x hx hsx
  · rcases List.mem_cons.1 hx with rfl | hx
    · exact hk'
    · exact hn.far x hx
theorem SnkAt.below (h : SnkAt w g bm nv s) (hb : Below w.heap.size w w') : SnkAt w' g bm nv s :=
  h.turns (Turns.of_below (S := []) hb) (by simp) (by simp) (by simp) (by simp)
/-- what a sink may turn holds no texts -/
theorem SnkAt.noText (h : SnkAt w g bm nv s) : ∀ x ∈ ownBlocks g bm nv, ∀ c fr, w.heap[x]? ≠ some (.cells c 9 fr) := by
  intro x hx c fr he
  simp only [ownBlocks, List.mem_cons] at hx
  rcases hx with rfl | rfl | hx
  · have := h.cells
    unfold Cells at this
    rw [this] at he
    injection he with he
    injection he with _ ht
    exact absurd ht (by decide)
  · obtain ⟨f, hm, _⟩ := h.map
    obtain ⟨es, n, hm⟩ := hm.isMap
    rw [hm] at he
    cases he
  · cases hk : nv.ownBlock with
    | none => rw [hk] at hx; simp at hx
    | some k =>
      rw [hk] at hx
      simp at hx
      subst hx
      obtain ⟨cur, hcur⟩ := own_block_type h.news hk
      rw [hcur] at he
      injection he with he
      injection he with _ ht
      exact absurd ht (by decide)
end
end Go.Proofs.Ytpnfdmglhonkmaa
