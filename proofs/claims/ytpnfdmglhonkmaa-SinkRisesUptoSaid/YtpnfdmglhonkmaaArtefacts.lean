/- (*sink.Sink).Artefacts. -/
import Derived.Test.YtpnfdmglhonkmaaSortArts
import Derived.Test.YtpnfdmglhonkmaaSnkCount
import Derived.Test.YtpnfdmglhonkmaaStrsLib
set_option maxRecDepth 100000
namespace Go.Proofs.Ytpnfdmglhonkmaa
open Go.RowKit Go.Maps Go.Sort

def Snk.jobs (s : Snk) : List (Fin 9) := (List.finRange 9).filter fun j => (s.art (j.val : Int)).isSome

/-- an element that tells an artefact; its pieces lie in memory from base on -/
def ArtE (w : World) (base : Nat) (s : Snk) (x : AE) : Prop :=
  ∃ a, s.art (x.1.val : Int) = some a ∧ x.2.1 = a.badge ∧ w.ownsRow base 9 1 (.slice x.2.2.1 x.2.2.2.1 x.2.2.2.2) a.pieces.length (a.pieces.map Value.string)

structure ArtsOut (w : World) (base : Nat) (v : Value) (L : List AE) (s : Snk) : Prop where
  row : ARow w base v L
  each : ∀ x ∈ L, ArtE w base s x
  jobs : L.map (·.1) = s.jobs

theorem ArtE.kept {w w' : World} {base : Nat} {s : Snk} {x : AE} {row : Option Nat} (h : ArtE w base s x) (hg : w.grownBy w' row) (hr : ∀ k, row = some k → ∀ c, w.heap[k]? ≠ some (.cells c 9 (0, 0))) : ArtE w' base s x := by
  obtain ⟨a, h1, h2, h3⟩ := h
  refine ⟨a, h1, h2, h3.kept hg ?_⟩
  cases hk : (Value.slice x.2.2.1 x.2.2.2.1 x.2.2.2.2).ownBlock with
  | none => exact .inl rfl
  | some k =>
    right
    rintro rfl
    obtain ⟨cur, hcur⟩ := own_block_type h3 hk
    exact hr k rfl cur hcur

theorem jobs_sorted {L : List AE} {s : Snk} (hs : L.Pairwise (fun a b => a.1.val ≤ b.1.val)) (hn : (L.map (·.1)).Nodup) (hm : ∀ j : Fin 9, j ∈ L.map (·.1) ↔ (s.art (j.val : Int)).isSome = true) : L.map (·.1) = s.jobs := by
  have h1 : (L.map (·.1)).Pairwise (fun a b : Fin 9 => a < b) := by
    have hle : (L.map (·.1)).Pairwise (fun a b : Fin 9 => a.val ≤ b.val) := List.pairwise_map.2 hs
    refine (hle.and hn).imp ?_
    rintro a b ⟨h1, h2⟩
    exact Fin.lt_def.2 (Nat.lt_of_le_of_ne h1 (fun e => h2 (Fin.ext e)))
  have h2 : s.jobs.Pairwise (fun a b : Fin 9 => a < b) := List.Pairwise.filter _ (List.pairwise_lt_finRange 9)
  refine List.Perm.eq_of_pairwise (le := fun a b : Fin 9 => a < b) (fun a b _ _ h3 h4 => absurd h3 (Fin.lt_asymm h4)) h1 h2 ?_
  refine (List.perm_ext_iff_of_nodup hn ?_).2 fun j => ?_
  · exact h2.imp fun h => Fin.ne_of_lt h
  · rw [hm j]
    simp [Snk.jobs]

/-- what the range over the artefacts has collected -/
structure Coll (w : World) (base : Nat) (v : Value) (s : Snk) (left : Lit → Bool) (L : List AE) : Prop where
  row : ARow w base v L
  each : ∀ x ∈ L, ArtE w base s x
  nodup : (L.map (·.1)).Nodup
  jobs : ∀ j : Fin 9, j ∈ L.map (·.1) ↔ ((s.art (j.val : Int)).isSome = true ∧ left (.int .i64 (j.val : Int)) = false)

theorem Coll.kept {w w' : World} {base : Nat} {v : Value} {s : Snk} {left : Lit → Bool} {L : List AE} {row : Option Nat} (h : Coll w base v s left L) (hg : w.grownBy w' row) (hr : ∀ k, row = some k → ∀ c t, w.heap[k]? ≠ some (.cells c t (0, 0))) : Coll w' base v s left L := by
  refine ⟨h.row.kept hg ?_, fun x hx => (h.each x hx).kept hg (fun k hk c => hr k hk c _), h.nodup, h.jobs⟩
  cases hk : v.ownBlock with
  | none => exact .inl rfl
  | some k =>
    right
    rintro rfl
    obtain ⟨cur, hcur⟩ := own_block_type h.row hk
    exact hr k rfl cur _ hcur

theorem Coll.below {w w' : World} {base : Nat} {v : Value} {s : Snk} {left : Lit → Bool} {L : List AE} (h : Coll w base v s left L) (hb : Below w.heap.size w w') : Coll w' base v s left L :=
  h.kept (only_of_below hb none) (fun k hk => by cases hk)

/-- the entry that comes: which artefact it is -/
theorem entry_art {w : World} {s : Snk} {f : Int → Option Value} {D : DataW Value} {x : Int} {c : Value} (hfit : s.Fit) (ha : Arts w s.art s.far f) (hx : (Lit.int .i64 x).wf = true) (h1 : Maps.has D (.int .i64 x) = (f x).isSome) (h2 : ∀ v z, f x = some v → D.atKey (.int .i64 x) z = .held v) (hat : ∀ zd, D.atKey (.int .i64 x) zd = .held c) :
    ∃ (j : Fin 9) (a : Art) (A : Option Addr) (n cap : Nat), x = (j.val : Int) ∧ s.art (j.val : Int) = some a ∧ c = .agg #[.int .i64 (j.val : Int), .int .i64 a.badge, .slice A n cap] ∧ Strs w (.slice A n cap) a.pieces ∧ n = a.pieces.length ∧ a.pieces.length ≤ 16 := by
  have hh := Maps.has_true_of_atKey hat
  rw [h1] at hh
  obtain ⟨v, hv⟩ := Option.isSome_iff_exists.1 hh
  have hcv : c = v := by
    have := h2 v (.held c) hv
    rw [hat] at this
    injection this
  have haj := ha x
  cases hs : s.art x with
  | none =>
    rw [hs] at haj
    simp only at haj
    rw [haj] at hv
    cases hv
  | some a =>
    rw [hs] at haj
    obtain ⟨sl, e1, e2, _⟩ := haj
    rw [hv] at e1
    injection e1 with e1
    have hj := hfit.job x a hs
    have hp := hfit.pieces x a hs
    obtain ⟨j, rfl⟩ : ∃ j : Fin 9, x = (j.val : Int) := ⟨⟨x.toNat, by omega⟩, by simp; omega⟩
    rcases own_shape e2 with ⟨rfl, hn⟩ | ⟨k, cap, rfl, _⟩
    · exact ⟨j, a, none, 0, 0, rfl, hs, hcv.trans e1, e2, hn.symm, hp⟩
    · exact ⟨j, a, _, _, cap, rfl, hs, hcv.trans e1, e2, rfl, hp⟩

theorem coll_step {w w' : World} {base : Nat} {v v' : Value} {s : Snk} {left : Lit → Bool} {L : List AE} {j : Fin 9} {a : Art} {A : Option Addr} {n cap : Nat} (h : Coll w base v s left L) (hj : s.art (j.val : Int) = some a) (hl : left (.int .i64 (j.val : Int)) = true)
    (hrow : w'.ownsRow base 49 3 v' (L.length + 1) (L.flatMap encA ++ encA (j, a.badge, (A, n, cap)))) (hg : w.grownBy w' v.ownBlock) (hs : w.ownsRow base 9 1 (.slice A n cap) a.pieces.length (a.pieces.map Value.string)) :
    Coll w' base v' s (fun z => left z && !z.sameKey (.int .i64 (j.val : Int))) (L ++ [(j, a.badge, (A, n, cap))]) := by
  have hr : ∀ k, v.ownBlock = some k → ∀ c, w.heap[k]? ≠ some (.cells c 9 (0, 0)) := by
    intro k hk c he
    obtain ⟨cur, hcur⟩ := own_block_type h.row hk
    exact block_ne hcur he (by decide) rfl
  have hnew : ArtE w base s (j, a.badge, (A, n, cap)) := ⟨a, hj, rfl, hs⟩
  refine ⟨by simpa [ARow] using hrow, ?_, ?_, ?_⟩
  · intro x hx
    rcases List.mem_append.1 hx with hx | hx
    · exact (h.each x hx).kept hg hr
    · simp at hx
      subst hx
      exact hnew.kept hg hr
  · rw [List.map_append, List.nodup_append]
    refine ⟨h.nodup, by simp, ?_⟩
    intro y hy z hz e
    simp at hz
    subst hz
    subst e
    have := ((h.jobs _).1 hy).2
    rw [hl] at this
    cases this
  · intro i
    rw [List.map_append, List.mem_append, h.jobs i]
    simp only [List.map_cons, List.map_nil, List.mem_singleton, Bool.and_eq_false_iff, Bool.not_eq_false']
    constructor
    · rintro (⟨h1, h2⟩ | rfl)
      · exact ⟨h1, .inl h2⟩
      · refine ⟨by rw [hj]; rfl, .inr ?_⟩
        simp [Lit.sameKey]
    · rintro ⟨h1, h2 | h2⟩
      · exact .inl ⟨h1, h2⟩
      · right
        simp [Lit.sameKey] at h2
        exact Fin.ext (by omega)

theorem info_art : ∃ i, Try.prog.info? 49 = some i ∧ i.zero = some (.agg #[.int .i64 0, .int .i64 0, .slice none 0 0]) ∧ i.size = 3 ∧ i.bytes = 40 := info_split (by kernel_rfl)

theorem row_ne {w : World} {base : Nat} {e : TypeId} {size : Nat} {v : Value} {n : Nat} {xs : List Value} {r : Nat} (h : w.ownsRow base e size v n xs) (hr : ∀ c, w.heap[r]? ≠ some (.cells c e (0, 0))) : some r ≠ v.ownBlock := by
  intro he
  obtain ⟨cur, hcur⟩ := own_block_type h he.symm
  exact hr cur hcur

theorem fin_wf : ∀ j : Fin 9, (Lit.int .i64 (j.val : Int)).wf = true := by decide

theorem Coll.len {w : World} {base : Nat} {v : Value} {s : Snk} {left : Lit → Bool} {L : List AE} (h : Coll w base v s left L) (hfit : s.Fit) : L.length ≤ 8 := by
  have := few_ints 8 (L.map fun x => (x.1.val : Int)) ?_ ?_
  · simpa using this
  · have hn := h.nodup
    refine List.pairwise_map.2 ((List.pairwise_map.1 hn).imp ?_)
    intro a b hne e
    exact hne (Fin.ext (by omega))
  · intro x hx
    obtain ⟨y, hy, rfl⟩ := List.mem_map.1 hx
    obtain ⟨a, h1, _⟩ := h.each y hy
    exact hfit.job _ a h1

theorem ranges_iter {P : Program} {k : TypeId} {w : World} {b r n cnt : Nat} {D : DataW Value} {left : Lit → Bool} (h : w.ranges P k RH b r n D left cnt) : ∀ c t, w.heap[r]? ≠ some (.cells c t (0, 0)) := by
  intro c t he
  obtain ⟨es, clock, since, seen, c0, hb, _, _, _, hr, _⟩ := h
  rw [hr] at he
  cases he

theorem owns_map {P : Program} {k : TypeId} {w : World} {b n : Nat} {D : DataW Value} (h : w.ownsMap P k RH b n D) : ∀ c t, w.heap[b]? ≠ some (.cells c t (0, 0)) := by
  intro c t he
  obtain ⟨es, clock, hb, _⟩ := h
  rw [hb] at he
  cases he

/-- a round of the range, from the entry's world on -/
theorem round_end {P : Program} {k : TypeId} {w w1 w3 : World} {bm n cnt : Nat} {D : DataW Value} {left left' : Lit → Bool} {s : Snk} {L : List AE} {v : Value} {j : Fin 9} {a : Art} {A A' : Option Addr} {np cap np' cap' : Nat} (hrg : w1.ranges P k RH bm w.heap.size n D left' cnt) (hC : Coll w1 w.heap.size v s left L) (hB : Below w.heap.size w w1)
    (hb3 : Below (w1.alloc (.cells #[.int .i64 (j.val : Int), .int .i64 a.badge, .slice A np cap] 49)).heap.size (w1.alloc (.cells #[.int .i64 (j.val : Int), .int .i64 a.badge, .slice A np cap] 49)) w3) (hr : w.heap.size < w1.heap.size) (hbm : bm < w.heap.size)
    (hrow : w3.ownsRow (w1.alloc (.cells #[.int .i64 (j.val : Int), .int .i64 a.badge, .slice A np cap] 49)).heap.size 9 1 (.slice A' np' cap') a.pieces.length (a.pieces.map Value.string)) :
    let w4 := w3.setCell ⟨w1.heap.size, 2, none⟩ (.slice A' np' cap')
    w4.ranges P k RH bm w.heap.size n D left' cnt ∧ Coll w4 w.heap.size v s left L ∧ Below w.heap.size w w4 ∧ w4.ownsRow w.heap.size 9 1 (.slice A' np' cap') a.pieces.length (a.pieces.map Value.string) ∧
      (∀ w5, w4.grownBy w5 v.ownBlock → w5.ranges P k RH bm w.heap.size n D left' cnt ∧ Below w.heap.size w w5) := by
  intro w4
  have hsz : (w1.alloc (.cells #[.int .i64 (j.val : Int), .int .i64 a.badge, .slice A np cap] 49)).heap.size = w1.heap.size + 1 := by simp
  have g3 : w1.grownBy w3 none := (World.grownBy_alloc w1 _ none).trans (only_of_below hb3 none)
  have hc3 : Cells w3 w1.heap.size 49 #[.int .i64 (j.val : Int), .int .i64 a.badge, .slice A np cap] := Cells.keep (Cells.new w1 _ _) hb3
  have g4 : w1.grownBy w4 none := by
    refine ⟨g3.os, g3.tape, g3.output, by simpa [w4, World.setCell] using g3.size, fun i hi hne => ?_⟩
    exact (Below.heap_setCell w3 _ _ i (by simp; omega)).trans (g3.block i hi hne)
  have hr4 := hrg.kept g4 (by simp) (by simp)
  have hC4 : Coll w4 w.heap.size v s left L := hC.kept g4 (fun k hk => by cases hk)
  have hB4 : Below w.heap.size w w4 := hB.grown g4 hB.size (fun k hk => by cases hk)
  have hrow4 : w4.ownsRow w.heap.size 9 1 (.slice A' np' cap') a.pieces.length (a.pieces.map Value.string) := by
    refine (hrow.kept (row := some w1.heap.size) (only_set (only_refl _ _) (.inl rfl) _) ?_).mono (by omega)
    cases hk : (Value.slice A' np' cap').ownBlock with
    | none => exact .inl rfl
    | some k =>
      have := (hrow.lt k hk).1
      exact .inr (by simp; omega)
  refine ⟨hr4, hC4, hB4, hrow4, fun w5 g5 => ⟨hr4.kept g5 ?_ ?_, hB4.grown g5 hB4.size fun k hk => (hC4.row.lt k hk).1⟩⟩
  · exact row_ne hC4.row (fun c => owns_map hr4.owns c _)
  · exact row_ne hC4.row (fun c => ranges_iter hr4 c _)

set_option maxHeartbeats 4000000 in
theorem artefacts_any {g bm : Nat} {nv : Value} {s : Snk} (w : World) (h : SnkAt w g bm nv s) :
    Calls Try.prog 11 #[.pointer (some ⟨g, 0, none⟩)] w fun e w' => ∃ v L, e = .returned v ∧ ArtsOut w' w.heap.size v L s ∧ Below w.heap.size w w' := by
  obtain ⟨f, ⟨n, D, hown, hD1, hD2⟩, ha⟩ := h.map
  have law := int_keyed Try.underlying3
  have c0 := h.cells.cell (j := 0) rfl
  have hfit := h.fit
  clear h
  go_enter Try.func11, Try.ntmps11
  go_wp2_with (first | (at_range; refine wpList_range_own _ rfl _ 55 rfl 3 49 law Try.underlying55 RH bm n D rfl hown ?_; intro w0 hrg0 hg0 hs0) | fail)
  go_frame
  go_loopw [3] (fun v wr => ∃ left cnt L, wr.ranges Try.prog 3 RH bm w.heap.size n D left cnt ∧ Coll wr w.heap.size v s left L ∧ Below w.heap.size w wr) (fun _ wr => wr.rangeLeft bm w.heap.size)
  case atStart =>
    exact ⟨_, _, [], hrg0, ⟨World.ownsRow_nil _ _ _ _, by simp, by simp, fun j => by
      simp only [List.map_nil, List.not_mem_nil, false_iff, not_and]
      intro h1 h2
      have hw : (Lit.int .i64 (j.val : Int)).wf = true := fin_wf j
      rw [hD1 _ hw] at h2
      have haj := ha (j.val : Int)
      obtain ⟨a, hs⟩ := Option.isSome_iff_exists.1 h1
      rw [hs] at haj
      obtain ⟨sl, e1, _⟩ := haj
      rw [e1] at h2
      cases h2⟩, (Below.refl _ _).grown hg0 (Nat.le_refl _) (fun j hj => by cases hj)⟩
  case round =>
    obtain ⟨left, cnt, L, hrg, hC, hB⟩ := hrel
    have HOWN := Lib.hid hown
    have HR0 := Lib.hid hrg
    have HC0 := Lib.hid hC
    have HB0 := Lib.hid hB
    have HA := Lib.hid ha
    have HD1 := Lib.hid hD1
    have HD2 := Lib.hid hD2
    clear hown hD1 hD2 ha hC hB hrg0 hg0 hs0
    go_wp2_with (first
      | (at_next; refine wpList_next_ranges (α := Int) (β := Value) _ rfl _ rfl 3 law RH (Value.int .i64) (fun v => v) (fun key kl hk => by
            obtain ⟨x, rfl, _⟩ := Maps.keyOf_int_inv Try.underlying3 hk
            exact ⟨x, rfl⟩) (fun v y _ => ⟨v, rfl⟩) bm w.heap.size n D left cnt rfl hrg ?_ ?_)
      | fail)
    · intro hc0 hl0
      have hlen := HC0.out.len hfit
      go_wp2_with fail
      refine (sort_all HC0.out.row (by omega)).mono ?_
      rintro e w5 ⟨rfl, L', hp, hsd, hrow, hgr⟩
      have HP := Lib.hid (And.intro hp (And.intro hsd (And.intro hrow hgr)))
      clear hp hsd hrow hgr
      go_wp2
      go_ret
      obtain ⟨hp, hsd, hrow, hgr⟩ := HP.out
      have hr : ∀ k, u3.ownBlock = some k → ∀ c, wr.heap[k]? ≠ some (.cells c 9 (0, 0)) := by
        intro k hk c he
        obtain ⟨cur, hcur⟩ := own_block_type HC0.out.row hk
        exact block_ne hcur he (by decide) rfl
      refine ⟨_, L', rfl, ⟨hrow, fun x hx => (HC0.out.each x (hp.subset hx)).kept hgr hr, ?_⟩, HB0.out.grown hgr HB0.out.size fun k hk => (HC0.out.row.lt k hk).1⟩
      refine jobs_sorted hsd ((hp.map _).nodup_iff.2 HC0.out.nodup) fun j => ?_
      rw [(hp.map (·.1)).mem_iff, HC0.out.jobs j, hl0]
      simp
    · intro x c kl y1 y2 w1 cnt1 hkey hlk hRa hRb hat hrg1 hlt hg1 hs1 hen
      subst hRa
      subst hRb
      obtain ⟨x', ex, rfl, hwx⟩ := Maps.keyOf_int_inv Try.underlying3 hkey
      cases ex
      obtain ⟨j, a, A, np, cap, rfl, hs, rfl, hst, hnp, hlen⟩ := entry_art hfit HA.out hwx (HD1.out _ hwx) (fun v z => HD2.out _ v z hwx) hat
      have hbm : bm < w.heap.size := HOWN.out.lt
      have hB1 := HB0.out.grown hg1 HB0.out.size (fun j hj => by cases hj; exact Nat.le_refl _)
      have hC1 := HC0.out.kept hg1 (fun k hk c t => by cases hk; exact ranges_iter HR0.out c t)
      have hlL := HC0.out.len hfit
      have hr1 : w.heap.size < w1.heap.size := by rw [hs1]; exact HR0.out.lt
      have HRG := Lib.hid hrg1
      have HC1 := Lib.hid hC1
      have HB1 := Lib.hid hB1
      have HS := Lib.hid hs
      have HLK := Lib.hid hlk
      have HLT := Lib.hid hlt
      have HNP := Lib.hid hnp
      have HSTR := Lib.hid (hst.below (hB1.alloc hB1.size (.cells #[.int .i64 (j.val : Int), .int .i64 a.badge, .slice A np cap] 49)))
      clear hlk hat hrg1 hlt hg1 hs1 hC1 hB1 hs hst hnp hkey hwx
      go_wp2_with fail
      refine (strsClone_any _ HSTR.out (by omega)).mono ?_
      rintro e w3 ⟨v', rfl, hrow, hb3⟩
      obtain ⟨A', np', cap', rfl⟩ : ∃ A n c, v' = .slice A n c := by
        rcases own_shape hrow with ⟨rfl, _⟩ | ⟨k, c, rfl, _⟩
        · exact ⟨_, _, _, rfl⟩
        · exact ⟨_, _, _, rfl⟩
      have hc3 : Cells w3 w1.heap.size 49 #[.int .i64 (j.val : Int), .int .i64 a.badge, .slice A np cap] := Cells.keep (Cells.new w1 _ _) hb3
      have d0 := hc3.cell (j := 0) rfl
      have d1 := hc3.cell (j := 1) rfl
      have d2 := hc3.cell (j := 2) rfl
      have d3 := hc3.fz 2
      obtain ⟨hr4, hC4, hB4, hrow4, hlast⟩ := round_end HRG.out HC1.out HB1.out hb3 hr1 hbm hrow
      have H4 := Lib.hid (And.intro hr4 (And.intro hC4 (And.intro hB4 (And.intro hrow4 hlast))))
      clear hr4 hC4 hB4 hrow4 hlast hc3 hb3 hrow
      obtain ⟨i, hi, hz, hsz, hby⟩ := info_art
      have one3 : ∀ u ∈ (#[Value.int .i64 (j.val : Int), .int .i64 a.badge, .slice A' np' cap'] : Array Value).toList, u.oneCell' = true := by
        intro u hu
        simp at hu
        rcases hu with rfl | rfl | rfl <;> rfl
      have hl30 : L.length < 1073741824 := by omega
      go_wp2_with (at_builtin; refine wpList_append_elem' (w := w3.setCell ⟨w1.heap.size, 2, none⟩ (.slice A' np' cap')) rfl _ _ _ rfl w.heap.size 49 i _ 3 40 Try.underlying46 hi hz hsz hby rfl (by decide) u3 L.length (L.flatMap encA) rfl H4.out.2.1.row #[.int .i64 (j.val : Int), .int .i64 a.badge, .slice A' np' cap'] rfl one3 w3.heap.size rfl (by simp [World.setCell]) hl30 (by decide) H4.out.2.2.1.size ?_; intro v5 w5 ho hgr hat5)
      obtain ⟨h5r, h5b⟩ := H4.out.2.2.2.2 w5 hgr
      go_roundw
      case rel => exact ⟨_, cnt1, _, h5r, coll_step H4.out.2.1 HS.out HLK.out ho hgr H4.out.2.2.2.1, h5b⟩
      case measure => rw [h5r.left_eq, HR0.out.left_eq]; exact HLT.out
end Go.Proofs.Ytpnfdmglhonkmaa
