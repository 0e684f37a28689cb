/- One sink, and two, of the call's own; a script of puts. -/
import Derived.Test.YtpnfdmglhonkmaaSinkOps
import Derived.Test.YtpnfdmglhonkmaaSinkAwake
import Derived.Test.YtpnfdmglhonkmaaSameArts
set_option maxRecDepth 100000
namespace Go.Proofs.Ytpnfdmglhonkmaa
open Go.RowKit Go.Maps

def Snk.op (s : Snk) (o : SOp) : Snk := s.put o.job o.badge o.index o.text
def Snk.ops (s : Snk) (l : List SOp) : Snk := l.foldl Snk.op s

theorem ops_snoc (s : Snk) (l : List SOp) (o : SOp) : s.ops (l ++ [o]) = (s.ops l).op o := by simp [Snk.ops]

theorem put_news (s : Snk) (j b i : Int) (t : ByteArray) : (s.put j b i t).news.length ≤ s.news.length + 1 := by
  unfold Snk.put
  split
  · simp [Snk.takeIn]
  · omega

theorem ops_news (s : Snk) (l : List SOp) : (s.ops l).news.length ≤ s.news.length + l.length := by
  induction l generalizing s with
  | nil => simp [Snk.ops]
  | cons o r ih =>
    have h1 := ih (s.op o)
    have h2 := put_news s o.job o.badge o.index o.text
    show ((s.op o).ops r).news.length ≤ _
    have h3 : (s.op o).news.length ≤ s.news.length + 1 := h2
    simp only [List.length_cons]
    omega

/-- a sink of the call's own -/
structure Mine (w0 w : World) (g bm : Nat) (nv : Value) (s : Snk) : Prop where
  at_ : SnkAt w g bm nv s
  g : w0.heap.size ≤ g
  b : w0.heap.size ≤ bm
  n : ∀ k, nv.ownBlock = some k → w0.heap.size ≤ k

theorem Mine.own {w0 w : World} {g bm : Nat} {nv : Value} {s : Snk} (h : Mine w0 w g bm nv s) : ∀ x ∈ ownBlocks g bm nv, w0.heap.size ≤ x := own_base (w := w) h.g h.b h.n

theorem Mine.next {w0 w w' : World} {g bm : Nat} {nv nv' : Value} {s s' : Snk} (h : Mine w0 w g bm nv s) (hB : Below w0.heap.size w0 w) (hs : SnkAt w' g bm nv' s') (hl : nv'.ownBlock = nv.ownBlock ∨ ∃ k, nv'.ownBlock = some k ∧ w.heap.size ≤ k) (ht : Turns (ownBlocks g bm nv) w w') :
    Mine w0 w' g bm nv' s' ∧ Below w0.heap.size w0 w' := by
  refine ⟨⟨hs, h.g, h.b, fun k hk => ?_⟩, hB.trans (ht.below hB.size h.own)⟩
  rcases hl with hl | ⟨j, hj, hj2⟩
  · exact h.n k (hl ▸ hk)
  · rw [hj] at hk
    injection hk with hk
    have := hB.size
    omega

theorem Mine.below {w0 w w' : World} {g bm : Nat} {nv : Value} {s : Snk} (h : Mine w0 w g bm nv s) (hb : Below w.heap.size w w') : Mine w0 w' g bm nv s := ⟨h.at_.below hb, h.g, h.b, h.n⟩

/-- two sinks that share nothing -/
structure Sunder (w : World) (g bm : Nat) (nv : Value) (s : Snk) (g' bm' : Nat) (nv' : Value) (s' : Snk) : Prop where
  a : SnkAt w g bm nv s
  b : SnkAt w g' bm' nv' s'
  g : g ≠ g'
  m : bm ≠ bm'
  n : ∀ k, nv.ownBlock = some k → nv'.ownBlock ≠ some k

theorem Sunder.symm {w : World} {g bm g' bm' : Nat} {nv nv' : Value} {s s' : Snk} (h : Sunder w g bm nv s g' bm' nv' s') : Sunder w g' bm' nv' s' g bm nv s :=
  ⟨h.b, h.a, h.g.symm, h.m.symm, fun k h1 h2 => h.n k h2 h1⟩

theorem Sunder.step {w w' : World} {g bm g' bm' : Nat} {nv nv' nv2 : Value} {s s' s2 : Snk} (h : Sunder w g bm nv s g' bm' nv' s') (hs : SnkAt w' g bm nv2 s2) (hl : nv2.ownBlock = nv.ownBlock ∨ ∃ k, nv2.ownBlock = some k ∧ w.heap.size ≤ k) (ht : Turns (ownBlocks g bm nv) w w') :
    Sunder w' g bm nv2 s2 g' bm' nv' s' := by
  obtain ⟨f, hm, _⟩ := h.a.map
  obtain ⟨es, c, hmb⟩ := hm.isMap
  obtain ⟨f', hm', _⟩ := h.b.map
  obtain ⟨es', c', hmb'⟩ := hm'.isMap
  have hmem : ∀ x, x ∈ ownBlocks g bm nv ↔ x = g ∨ x = bm ∨ nv.ownBlock = some x := by
    intro x
    simp only [ownBlocks, List.mem_cons]
    cases hk : nv.ownBlock with
    | none => simp
    | some k => simp [eq_comm]
  have hmo : ∀ (gx : Nat) (nx : Value) (sx : Snk) (bx : Nat), SnkAt w gx bx nx sx → ∀ k, nx.ownBlock = some k → ∃ cur, w.heap[k]? = some (.cells cur 45 (0, 0)) := fun gx nx sx bx hx k hk => own_block_type hx.news hk
  refine ⟨hs, h.b.turns ht ?_ ?_ ?_ h.a.noText, h.g, h.m, ?_⟩
  · rw [hmem]
    rintro (e | e | e)
    · exact h.g e.symm
    · exact block_ne_map h.b.cells hmb e
    · obtain ⟨cur, hc⟩ := hmo _ _ _ _ h.a _ e
      exact block_ne h.b.cells hc (by decide) rfl
  · rw [hmem]
    rintro (e | e | e)
    · exact block_ne_map h.a.cells hmb' e.symm
    · exact h.m e.symm
    · obtain ⟨cur, hc⟩ := hmo _ _ _ _ h.a _ e
      exact block_ne_map hc hmb' rfl
  · intro k hk
    rw [hmem]
    obtain ⟨cur, hc⟩ := hmo _ _ _ _ h.b _ hk
    rintro (e | e | e)
    · subst e
      exact block_ne hc h.a.cells (by decide) rfl
    · subst e
      exact block_ne_map hc hmb rfl
    · exact h.n k e hk
  · intro k hk hk'
    rcases hl with hl | ⟨j, hj, hj2⟩
    · exact h.n k (hl ▸ hk) hk'
    · rw [hj] at hk
      injection hk with hk
      have := (h.b.news.lt _ hk').2
      omega

theorem Sunder.told {w w' : World} {g bm g' bm' : Nat} {nv nv' : Value} {s s' : Snk} (h : Sunder w g bm nv s g' bm' nv' s') (ht : w.grownBy w' (some g)) : SnkAt w' g' bm' nv' s' := by
  obtain ⟨f', hm', _⟩ := h.b.map
  obtain ⟨es', c', hmb'⟩ := hm'.isMap
  refine h.b.turns (Turns.of_only ht) ?_ ?_ ?_ fun x hx => h.a.noText x (by
    simp at hx
    subst hx
    simp [ownBlocks])
  · simp
    exact fun e => h.g e.symm
  · simp
    exact fun e => block_ne_map h.a.cells hmb' e.symm
  · intro k hk
    simp
    rintro rfl
    obtain ⟨cur, hc⟩ := own_block_type h.b.news hk
    exact block_ne hc h.a.cells (by decide) rfl

theorem own_slice {w : World} {base : Nat} {e : TypeId} {size : Nat} {v : Value} {n : Nat} {xs : List Value} (h : w.ownsRow base e size v n xs) : ∃ A cap, v = .slice A n cap := by
  rcases own_shape h with ⟨rfl, hn⟩ | ⟨k, cap, rfl, _⟩
  · exact ⟨none, 0, by rw [hn]⟩
  · exact ⟨_, cap, rfl⟩

/-- two sinks of the call's own -/
structure Pair (w0 w : World) (g bm : Nat) (nv : Value) (s : Snk) (g' bm' : Nat) (nv' : Value) (s' : Snk) : Prop where
  two : Sunder w g bm nv s g' bm' nv' s'
  a : Mine w0 w g bm nv s
  b : Mine w0 w g' bm' nv' s'
  below : Below w0.heap.size w0 w

theorem Pair.symm {w0 w : World} {g bm g' bm' : Nat} {nv nv' : Value} {s s' : Snk} (h : Pair w0 w g bm nv s g' bm' nv' s') : Pair w0 w g' bm' nv' s' g bm nv s := ⟨h.two.symm, h.b, h.a, h.below⟩

theorem Pair.step {w0 w w' : World} {g bm g' bm' : Nat} {nv nv' nv2 : Value} {s s' s2 : Snk} (h : Pair w0 w g bm nv s g' bm' nv' s') (hs : SnkAt w' g bm nv2 s2) (hl : nv2.ownBlock = nv.ownBlock ∨ ∃ k, nv2.ownBlock = some k ∧ w.heap.size ≤ k) (ht : Turns (ownBlocks g bm nv) w w') :
    Pair w0 w' g bm nv2 s2 g' bm' nv' s' := by
  have h1 := h.two.step hs hl ht
  have h2 := h.a.next h.below hs hl ht
  exact ⟨h1, h2.1, ⟨h1.b, h.b.g, h.b.b, h.b.n⟩, h2.2⟩

theorem Pair.keep {w0 w w' : World} {g bm g' bm' : Nat} {nv nv' : Value} {s s' : Snk} (h : Pair w0 w g bm nv s g' bm' nv' s') (hb : Below w.heap.size w w') : Pair w0 w' g bm nv s g' bm' nv' s' :=
  ⟨⟨h.two.a.below hb, h.two.b.below hb, h.two.g, h.two.m, h.two.n⟩, h.a.below hb, h.b.below hb, h.below.trans (hb.mono h.below.size)⟩

theorem pair_new {w0 w1 w2 : World} {g bm g' bm' : Nat} {s s' : Snk} (hs1 : SnkAt w1 g bm (.slice none 0 0) s) (hb1 : Below w0.heap.size w0 w1) (hg1 : w0.heap.size ≤ g) (hm1 : w0.heap.size ≤ bm) (hs2 : SnkAt w2 g' bm' (.slice none 0 0) s') (hb2 : Below w1.heap.size w1 w2) (hg2 : w1.heap.size ≤ g') (hm2 : w1.heap.size ≤ bm') :
    Pair w0 w2 g bm (.slice none 0 0) s g' bm' (.slice none 0 0) s' := by
  have l1 := hs1.cells.lt
  have l2 : bm < w1.heap.size := by
    obtain ⟨f, hm, _⟩ := hs1.map
    exact hm.lt
  have l3 := hb1.size
  refine ⟨⟨hs1.below hb2, hs2, by omega, by omega, fun k hk => by cases hk⟩, ⟨hs1.below hb2, hg1, hm1, fun k hk => by cases hk⟩, ⟨hs2, by omega, by omega, fun k hk => by cases hk⟩, hb1.trans (hb2.mono hb1.size)⟩

theorem ArtsOut.below {w w' : World} {base : Nat} {v : Value} {L : List AE} {s : Snk} (h : ArtsOut w base v L s) (hb : Below w.heap.size w w') : ArtsOut w' base v L s :=
  ⟨own_kept h.row hb, fun x hx => (h.each x hx).kept (only_of_below hb none) (fun k hk => by cases hk), h.jobs⟩

/-- what a sink may turn holds only a sink, a map and events -/
theorem SnkAt.noType {w : World} {g bm : Nat} {nv : Value} {s : Snk} (h : SnkAt w g bm nv s) {t : TypeId} (h1 : 57 ≠ t) (h2 : 45 ≠ t) : ∀ x ∈ ownBlocks g bm nv, ∀ c fr, w.heap[x]? ≠ some (.cells c t fr) := by
  intro x hx c fr he
  simp only [ownBlocks, List.mem_cons] at hx
  rcases hx with rfl | rfl | hx
  · have := h.cells
    unfold Cells at this
    rw [this] at he
    injection he with he
    injection he with _ ht
    exact h1 ht
  · obtain ⟨f, hm, _⟩ := h.map
    obtain ⟨es, n, hm⟩ := hm.isMap
    rw [hm] at he
    cases he
  · cases hk : nv.ownBlock with
    | none => rw [hk] at hx; simp at hx
    | some k =>
      rw [hk] at hx
      simp at hx
      subst hx
      obtain ⟨cur, hcur⟩ := own_block_type h.news hk
      rw [hcur] at he
      injection he with he
      injection he with _ ht
      exact h2 ht

theorem row_turns {w w' : World} {S : List Nat} {base : Nat} {t : TypeId} {size : Nat} {v : Value} {n : Nat} {xs : List Value} (h : w.ownsRow base t size v n xs) (ht : Turns S w w') (hS : ∀ x ∈ S, ∀ c fr, w.heap[x]? ≠ some (.cells c t fr)) : w'.ownsRow base t size v n xs := by
  refine ⟨h.1, ?_⟩
  rcases h.2 with hn | ⟨k, cap, cur, rfl, hb, hg, rest⟩
  · exact .inl hn
  · exact .inr ⟨k, cap, cur, rfl, hb, (ht.block k (lt_of_block hg) fun hm => hS k hm _ _ hg).trans hg, rest⟩

theorem ArtsOut.turns {w w' : World} {base : Nat} {v : Value} {L : List AE} {s : Snk} {S : List Nat} (h : ArtsOut w base v L s) (ht : Turns S w w') (h1 : ∀ x ∈ S, ∀ c fr, w.heap[x]? ≠ some (.cells c 49 fr)) (h2 : ∀ x ∈ S, ∀ c fr, w.heap[x]? ≠ some (.cells c 9 fr)) : ArtsOut w' base v L s :=
  ⟨row_turns h.row ht h1, fun x hx => by
    obtain ⟨a, e1, e2, e3⟩ := h.each x hx
    exact ⟨a, e1, e2, row_turns e3 ht h2⟩, h.jobs⟩

theorem ArtsOut.len {w : World} {base : Nat} {v : Value} {L : List AE} {s : Snk} (h : ArtsOut w base v L s) : L.length ≤ 9 := by
  have e : L.length = s.jobs.length := by rw [← h.jobs]; simp
  rw [e]
  unfold Snk.jobs
  have := List.length_filter_le (fun j : Fin 9 => (s.art (j.val : Int)).isSome) (List.finRange 9)
  simpa using this
/-- an element of a sink's artefacts, in memory -/
structure ElemAt (w : World) (A : Option Addr) (s : Snk) (L : List AE) (k g : Nat) (j : Fin 9) (b : Int) (a : Option Addr) (n c : Nat) (l : List ByteArray) : Prop where
  addr : A = some ⟨g, 0, none⟩
  art : s.art (j.val : Int) = some ⟨b, l⟩
  job : ∃ x, L[k]? = some x ∧ x.1 = j
  len : n = l.length ∧ l.length ≤ 16
  c0 : w.cell? ⟨g, k * 3, none⟩ = some (.int .i64 (j.val : Int))
  c1 : w.cell? ⟨g, k * 3 + 1, none⟩ = some (.int .i64 b)
  c2 : w.cell? ⟨g, k * 3 + 2, none⟩ = some (.slice a n c)
  strs : Strs w (.slice a n c) l

theorem ArtsOut.elem {w : World} {base : Nat} {A : Option Addr} {n cap : Nat} {L : List AE} {s : Snk} (h : ArtsOut w base (.slice A n cap) L s) (hfit : s.Fit) {k : Nat} (hk : k < L.length) : ∃ g j b a n c l, ElemAt w A s L k g j b a n c l := by
  obtain ⟨x, hx⟩ : ∃ x, L[k]? = some x := ⟨_, List.getElem?_eq_getElem hk⟩
  obtain ⟨a, e1, e2, e3⟩ := h.each x (List.mem_of_getElem? hx)
  rcases h.row.2 with ⟨_, hn⟩ | ⟨g, c, cur, hv, _, hg, _⟩
  · omega
  have r1 := h.row
  injection hv with hA hn hc
  subst hA hn hc
  have q := fun i (hi : i < 3) => (r1.cellAt (k * 3 + i) (by omega)).trans (flat_at L k x hx i hi)
  have hlen : x.2.2.2.1 = a.pieces.length := by
    obtain ⟨A', c', hv'⟩ := own_slice e3
    injection hv'
  exact ⟨g, x.1, a.badge, x.2.2.1, x.2.2.2.1, x.2.2.2.2, a.pieces, rfl, e1, ⟨x, hx, rfl⟩, ⟨hlen, hfit.pieces _ _ e1⟩, q 0 (by omega), (q 1 (by omega)).trans (by rw [← e2]; rfl), q 2 (by omega), e3.mono (Nat.zero_le _)⟩

/-- every artefact is among them -/
theorem ArtsOut.all {w : World} {base : Nat} {v : Value} {L : List AE} {s : Snk} (h : ArtsOut w base v L s) (hfit : s.Fit) {j : Int} {a : Art} (hj : s.art j = some a) : ∃ k x, k < L.length ∧ L[k]? = some x ∧ (x.1.val : Int) = j := by
  have hb := hfit.job j a hj
  obtain ⟨i, hi⟩ : ∃ i : Fin 9, (i.val : Int) = j := ⟨⟨j.toNat, by omega⟩, by simp; omega⟩
  have hm : i ∈ L.map (·.1) := by
    rw [h.jobs]
    unfold Snk.jobs
    rw [List.mem_filter]
    exact ⟨List.mem_finRange i, by rw [hi, hj]; rfl⟩
  obtain ⟨x, hx, hxi⟩ := List.mem_map.1 hm
  obtain ⟨k, hk, hkx⟩ := List.getElem_of_mem hx
  exact ⟨k, x, hk, by rw [List.getElem?_eq_getElem hk, hkx], by rw [hxi, hi]⟩
end Go.Proofs.Ytpnfdmglhonkmaa
