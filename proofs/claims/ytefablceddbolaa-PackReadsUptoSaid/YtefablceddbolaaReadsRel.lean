/- PackReads' readers: a list of states (block, place, fault), once as readers, once as the reference's. -/
import Derived.Test.YtefablceddbolaaSame
namespace Go.Proofs.Ytefablceddbolaa
open Go.RowKit

def refCells (b : ByteArray) (s : Nat × Nat × Int) : List Value := [.string b, .int .i64 (s.2.1 : Int), .int .i64 s.2.2, .int .i64 (fa s.2.2 s.2.1)]
def ptrOf (s : Nat × Nat × Int) : Value := .pointer (some ⟨s.1, 0, none⟩)

theorem refCells_len (b : ByteArray) : ∀ S : List (Nat × Nat × Int), (S.flatMap (refCells b)).length = S.length * 4
  | [] => rfl
  | s :: t => by rw [List.flatMap_cons, List.length_append, refCells_len b t]; simp [refCells]; omega

theorem refCells_at (b : ByteArray) : ∀ (S : List (Nat × Nat × Int)) (k j : Nat) (s : Nat × Nat × Int), S[k]? = some s → j < 4 → (S.flatMap (refCells b))[k * 4 + j]? = (refCells b s)[j]?
  | s :: t, 0, j, s', h, hj => by
    simp at h
    subst h
    rw [List.flatMap_cons, List.getElem?_append_left (by simp [refCells]; omega)]
    simp
  | s :: t, k + 1, j, s', h, hj => by
    simp at h
    rw [List.flatMap_cons, List.getElem?_append_right (by simp [refCells]; omega)]
    have := refCells_at b t k j s' h hj
    rw [← this]
    congr 1
    simp [refCells]
    omega

structure RS (w : World) (base : Nat) (b : ByteArray) (pv rv : Value) (S : List (Nat × Nat × Int)) : Prop where
  own5 : w.ownsRow base 38 1 pv S.length (S.map ptrOf)
  own6 : w.ownsRow base 55 4 rv S.length (S.flatMap (refCells b))
  rd : ∀ (j : Nat) s, S[j]? = some s → Rdr w s.1 b s.2.1 s.2.2 ∧ base ≤ s.1 ∧ s.2.1 ≤ b.size
  nd : ∀ (i j : Nat) s t, S[i]? = some s → S[j]? = some t → s.1 = t.1 → i = j

theorem RS.ref {w : World} {base : Nat} {b : ByteArray} {pv : Value} {S : List (Nat × Nat × Int)} {h n cap k : Nat} {s : Nat × Nat × Int} (H : RS w base b pv (.slice (some ⟨h, 0, none⟩) n cap) S) (hk : S[k]? = some s) :
    Ref w h (k * 4) b s.2.1 s.2.2 (fa s.2.2 s.2.1) := by
  have hkl := (List.getElem?_eq_some_iff.1 hk).1
  rcases H.own6.2 with ⟨h', _⟩ | ⟨g', cap', cur, h', hb, hg, hnc, hcm, hcs, htake⟩
  · simp at h'
  · simp only [Value.slice.injEq, Option.some.injEq, Addr.mk.injEq, and_true] at h'
    obtain ⟨rfl, rfl, rfl⟩ := h'
    have each : ∀ j, j < 4 → cur[k * 4 + j]? = (refCells b s)[j]? := fun j hj => by
      have h1 := refCells_at b S k j s hk hj
      rw [← htake, List.getElem?_take, if_pos (by omega)] at h1
      rw [← h1]
      simp
    exact ⟨cur, _, hg, each 0 (by omega), each 1 (by omega), each 2 (by omega), each 3 (by omega)⟩

theorem RS.step {w w' : World} {base : Nat} {b : ByteArray} {pv : Value} {S : List (Nat × Nat × Int)} {h n cap k g p q : Nat} {e f : Int} (H : RS w base b pv (.slice (some ⟨h, 0, none⟩) n cap) S) (hk : S[k]? = some (g, p, e))
    (hB : Both w w' g h (k * 4)) (hR : Rdr w' g b q f) (hF : Ref w' h (k * 4) b q f (fa f q)) (hq : q ≤ b.size) : RS w' base b pv (.slice (some ⟨h, 0, none⟩) n cap) (S.set k (g, q, f)) := by
  have hkl := (List.getElem?_eq_some_iff.1 hk).1
  have hRw := (H.rd k _ hk).1
  refine ⟨?_, ?_, ?_, ?_⟩
  · have hm : (S.set k (g, q, f)).map ptrOf = S.map ptrOf := by
      apply List.ext_getElem?
      intro i
      rw [List.getElem?_map, List.getElem?_map, List.getElem?_set]
      by_cases hi : k = i
      · subst hi
        rw [if_pos rfl, if_pos hkl, hk]
        rfl
      · rw [if_neg hi]
    rw [hm, List.length_set]
    refine ⟨H.own5.1, ?_⟩
    rcases H.own5.2 with h' | ⟨g', cap', cur, h', hb, hg, rest⟩
    · exact .inl h'
    · refine .inr ⟨g', cap', cur, h', hb, hB.1.keep hg ?_, rest⟩
      intro hm
      simp at hm
      rcases hm with rfl | rfl
      · unfold Rdr at hRw
        rw [hg] at hRw
        injection hRw with hRw
        injection hRw with _ ht
        exact absurd ht (by decide)
      · rcases H.own6.2 with ⟨h2, _⟩ | ⟨g2, cap2, cur2, h2, _, hg2, _⟩
        · simp at h2
        · simp only [Value.slice.injEq, Option.some.injEq, Addr.mk.injEq, and_true] at h2
          obtain ⟨rfl, _, _⟩ := h2
          rw [hg] at hg2
          injection hg2 with hg2
          injection hg2 with _ ht
          exact absurd ht (by decide)
  · rcases H.own6.2 with ⟨h2, _⟩ | ⟨g2, cap2, cur, h2, hb2, hg2, hnc, hcm, hcs, htake⟩
    · simp at h2
    · simp only [Value.slice.injEq, Option.some.injEq, Addr.mk.injEq, and_true] at h2
      obtain ⟨rfl, rfl, rfl⟩ := h2
      obtain ⟨cur', hg', hs', hout⟩ := hB.2 cur _ hg2
      obtain ⟨cur2, E2, hg3, c0, c1, c2, c3⟩ := hF
      have hcc : cur2 = cur' := by
        rw [hg'] at hg3
        injection hg3 with hg3
        injection hg3 with hg3 _
        exact hg3.symm
      subst hcc
      rw [List.length_set]
      refine ⟨by rw [refCells_len, List.length_set], .inr ⟨_, _, cur2, rfl, hb2, hg', hnc, hcm, by rw [hs', hcs], ?_⟩⟩
      apply List.ext_getElem?
      intro i
      rw [List.getElem?_take]
      by_cases hi : i < S.length * 4
      · rw [if_pos hi]
        obtain ⟨m, j, rfl, hj⟩ : ∃ m j, i = m * 4 + j ∧ j < 4 := ⟨i / 4, i % 4, by omega, by omega⟩
        have hml : m < S.length := by omega
        rw [Array.getElem?_toList]
        by_cases hmk : m = k
        · subst hmk
          rw [refCells_at b _ m j (g, q, f) (by rw [List.getElem?_set, if_pos rfl, if_pos hkl]) hj]
          match j, hj with
          | 0, _ => exact c0
          | 1, _ => exact c1
          | 2, _ => exact c2
          | 3, _ => exact c3
        · have hsm : S[m]? = some S[m] := List.getElem?_eq_getElem hml
          rw [refCells_at b _ m j S[m] (by rw [List.getElem?_set, if_neg (by omega)]; exact hsm) hj, hout _ (by omega)]
          have h1 := refCells_at b S m j _ hsm hj
          rw [← htake, List.getElem?_take, if_pos (by omega), Array.getElem?_toList] at h1
          exact h1
      · rw [if_neg hi]
        symm
        apply List.getElem?_eq_none
        rw [refCells_len, List.length_set]
        omega
  · intro j s hj
    rw [List.getElem?_set] at hj
    by_cases hi : k = j
    · subst hi
      rw [if_pos rfl, if_pos hkl] at hj
      injection hj with hj
      subst hj
      exact ⟨hR, (H.rd k _ hk).2.1, hq⟩
    · rw [if_neg hi] at hj
      obtain ⟨h1, h2, h3⟩ := H.rd j s hj
      refine ⟨hB.1.keep h1 ?_, h2, h3⟩
      intro hm
      simp at hm
      rcases hm with hm | hm
      · exact hi (H.nd k j _ _ hk hj hm.symm)
      · rcases H.own6.2 with ⟨h2, _⟩ | ⟨g2, cap2, cur2, h2, _, hg2, _⟩
        · simp at h2
        · simp only [Value.slice.injEq, Option.some.injEq, Addr.mk.injEq, and_true] at h2
          obtain ⟨rfl, _, _⟩ := h2
          unfold Rdr at h1
          rw [hm, hg2] at h1
          injection h1 with h1
          injection h1 with _ ht
          exact absurd ht (by decide)
  · intro i j s t hi hj hst
    rw [List.getElem?_set] at hi hj
    by_cases e1 : k = i
    · by_cases e2 : k = j
      · omega
      · subst e1
        rw [if_pos rfl, if_pos hkl] at hi
        rw [if_neg e2] at hj
        injection hi with hi
        subst hi
        exact H.nd k j _ _ hk hj hst
    · rw [if_neg e1] at hi
      by_cases e2 : k = j
      · subst e2
        rw [if_pos rfl, if_pos hkl] at hj
        injection hj with hj
        subst hj
        exact H.nd i k _ _ hi hk hst
      · rw [if_neg e2] at hj
        exact H.nd i j _ _ hi hj hst

theorem own_block_type {w : World} {base : Nat} {t : TypeId} {size : Nat} {v : Value} {n : Nat} {xs : List Value} {g : Nat} (h : w.ownsRow base t size v n xs) (hv : v.ownBlock = some g) : ∃ cur, w.heap[g]? = some (.cells cur t (0, 0)) := by
  rcases h.2 with ⟨rfl, _⟩ | ⟨g', cap, cur, rfl, _, hg, _⟩
  · simp [Value.ownBlock] at hv
  · simp [Value.ownBlock] at hv
    subst hv
    exact ⟨cur, hg⟩

theorem block_ne {w : World} {t t' : TypeId} {c c' : Array Value} {g g' : Nat} (h : w.heap[g]? = some (.cells c t (0, 0))) (h' : w.heap[g']? = some (.cells c' t' (0, 0))) (hne : t ≠ t') : g ≠ g' := by
  rintro rfl
  rw [h] at h'
  injection h' with h'
  injection h' with _ ht
  exact hne ht

/-- the readers' slice has grown by a clone -/
structure RS1 (w : World) (base : Nat) (b : ByteArray) (pv rv : Value) (S : List (Nat × Nat × Int)) (x : Nat × Nat × Int) : Prop where
  own5 : w.ownsRow base 38 1 pv (S.length + 1) ((S ++ [x]).map ptrOf)
  own6 : w.ownsRow base 55 4 rv S.length (S.flatMap (refCells b))
  rd : ∀ (j : Nat) s, (S ++ [x])[j]? = some s → Rdr w s.1 b s.2.1 s.2.2 ∧ base ≤ s.1 ∧ s.2.1 ≤ b.size
  nd : ∀ (i j : Nat) s t, (S ++ [x])[i]? = some s → (S ++ [x])[j]? = some t → s.1 = t.1 → i = j

theorem RS.grow1 {w w1 w2 : World} {base : Nat} {b : ByteArray} {pv pv' rv : Value} {S : List (Nat × Nat × Int)} {gz p : Nat} {e : Int} (H : RS w base b pv rv S) (hb1 : Below w.heap.size w w1) (hgz : w.heap.size ≤ gz) (hbase : base ≤ w.heap.size) (hR : Rdr w1 gz b p e) (hp : p ≤ b.size)
    (hg : w1.grownBy w2 pv.ownBlock) (ho : w2.ownsRow base 38 1 pv' (S.length + 1) (S.map ptrOf ++ [ptrOf (gz, p, e)])) : RS1 w2 base b pv' rv S (gz, p, e) := by
  have o5 := own_kept H.own5 hb1
  have o6 := own_kept H.own6 hb1
  have keep : ∀ s : Nat × Nat × Int, Rdr w1 s.1 b s.2.1 s.2.2 → Rdr w2 s.1 b s.2.1 s.2.2 := fun s hs => by
    refine hs.grown hg fun he => ?_
    obtain ⟨cur, hc⟩ := own_block_type o5 he.symm
    exact block_ne hs hc (by decide) rfl
  refine ⟨by rw [List.map_append]; exact ho, ?_, ?_, ?_⟩
  · refine o6.kept hg ?_
    cases hr : rv.ownBlock with
    | none => exact .inl rfl
    | some r =>
      right
      intro he
      obtain ⟨c1, h1⟩ := own_block_type o6 hr
      obtain ⟨c2, h2⟩ := own_block_type o5 he.symm
      exact block_ne h1 h2 (by decide) rfl
  · intro j s hj
    rw [List.getElem?_append] at hj
    split at hj
    · obtain ⟨h1, h2, h3⟩ := H.rd j s hj
      exact ⟨keep s (h1.below hb1 h1.lt), h2, h3⟩
    · rw [List.getElem?_singleton] at hj
      split at hj
      · injection hj with hj
        subst hj
        exact ⟨keep (gz, p, e) hR, by show base ≤ gz; omega, hp⟩
      · cases hj
  · have old : ∀ (i : Nat) s, S[i]? = some s → s.1 < w.heap.size := fun i s hi => (H.rd i s hi).1.lt
    intro i j s t hi hj hst
    have il := (List.getElem?_eq_some_iff.1 hi).1
    have jl := (List.getElem?_eq_some_iff.1 hj).1
    simp at il jl
    rw [List.getElem?_append] at hi hj
    split at hi
    · split at hj
      · exact H.nd i j s t hi hj hst
      · rw [List.getElem?_singleton] at hj
        split at hj
        · injection hj with hj
          subst hj
          have := old i s hi
          simp at hst
          omega
        · cases hj
    · split at hj
      · rw [List.getElem?_singleton] at hi
        split at hi
        · injection hi with hi
          subst hi
          have := old j t hj
          simp at hst
          omega
        · cases hi
      · omega

theorem RS1.grow2 {w w' : World} {base : Nat} {b : ByteArray} {pv rv rv' : Value} {S : List (Nat × Nat × Int)} {x : Nat × Nat × Int} (H : RS1 w base b pv rv S x) (hg : w.grownBy w' rv.ownBlock)
    (ho : w'.ownsRow base 55 4 rv' (S.length + 1) (S.flatMap (refCells b) ++ refCells b x)) : RS w' base b pv rv' (S ++ [x]) := by
  refine ⟨?_, ?_, ?_, H.nd⟩
  · have := H.own5
    rw [show (S ++ [x]).length = S.length + 1 from by simp]
    refine this.kept hg ?_
    cases hr : pv.ownBlock with
    | none => exact .inl rfl
    | some r =>
      right
      intro he
      obtain ⟨c1, h1⟩ := own_block_type this hr
      obtain ⟨c2, h2⟩ := own_block_type H.own6 he.symm
      exact block_ne h1 h2 (by decide) rfl
  · rw [show (S ++ [x]).length = S.length + 1 from by simp, List.flatMap_append]
    simpa using ho
  · intro j s hj
    obtain ⟨h1, h2, h3⟩ := H.rd j s hj
    refine ⟨h1.grown hg fun he => ?_, h2, h3⟩
    obtain ⟨cur, hc⟩ := own_block_type H.own6 he.symm
    exact block_ne h1 hc (by decide) rfl

theorem RS.start {w : World} {base g0 g1 : Nat} {b : ByteArray} (hc : w.heap[g1]? = some (.cells #[.pointer (some ⟨g0, 0, none⟩)] 38 (0, 0))) (h1 : base ≤ g1) (hR : Rdr w g0 b 0 0) (h0 : base ≤ g0) (hb : base ≤ w.heap.size) :
    RS (w.alloc (.cells #[.string b, .int .i64 0, .int .i64 0, .int .i64 0] 55)) base b (.slice (some ⟨g1, 0, none⟩) 1 1) (.slice (some ⟨w.heap.size, 0, none⟩) 1 1) [(g0, 0, 0)] := by
  refine ⟨⟨rfl, .inr ⟨g1, 1, _, rfl, h1, block_alloc hc _, Nat.le_refl _, by unfold maxLen; omega, rfl, rfl⟩⟩, World.ownsRow_lit w _ 1 hb (by unfold maxLen; omega) rfl, ?_, ?_⟩
  · intro j s hj
    rw [List.getElem?_singleton] at hj
    split at hj
    · injection hj with hj
      subst hj
      exact ⟨hR.alloc _, h0, Nat.zero_le _⟩
    · cases hj
  · intro i j s t hi hj _
    have il := (List.getElem?_eq_some_iff.1 hi).1
    have jl := (List.getElem?_eq_some_iff.1 hj).1
    simp at il jl
    omega

theorem RS1.cells {w : World} {base : Nat} {b : ByteArray} {pv : Value} {S : List (Nat × Nat × Int)} {x : Nat × Nat × Int} {h n cap k : Nat} {s : Nat × Nat × Int} (H : RS1 w base b pv (.slice (some ⟨h, 0, none⟩) n cap) S x) (hk : S[k]? = some s) :
    w.cell? ⟨h, k * 4, none⟩ = some (.string b) ∧ w.cell? ⟨h, k * 4 + 1, none⟩ = some (.int .i64 (s.2.1 : Int)) ∧ w.cell? ⟨h, k * 4 + 2, none⟩ = some (.int .i64 s.2.2) ∧ w.cell? ⟨h, k * 4 + 3, none⟩ = some (.int .i64 (fa s.2.2 s.2.1)) := by
  have hkl := (List.getElem?_eq_some_iff.1 hk).1
  rcases H.own6.2 with ⟨h', _⟩ | ⟨g', cap', cur, h', hb, hg, hnc, hcm, hcs, htake⟩
  · simp at h'
  · simp only [Value.slice.injEq, Option.some.injEq, Addr.mk.injEq, and_true] at h'
    obtain ⟨rfl, rfl, rfl⟩ := h'
    have each : ∀ j, j < 4 → w.cell? ⟨h, k * 4 + j, none⟩ = (refCells b s)[j]? := fun j hj => by
      have h1 := refCells_at b S k j s hk hj
      rw [← h1]
      exact H.own6.cellAt (k * 4 + j) (by omega)
    exact ⟨each 0 (by omega), each 1 (by omega), each 2 (by omega), each 3 (by omega)⟩

/-- append(s, u): u, of so many cells, lies in the newest block -/
theorem wpList_append_elem {P : Program} {w : World} {ops : Array Oper} {rest : List Oper} {o : Oper} {a : Act} {Q : Exit → Act → World → Prop} (hgd : o.guard = none) (s x : Operand) (t : TypeId)
    (ho : o.op = .call { callee := .builtin .append, args := #[s, x], argTypes := #[t, t] })
    (base : Nat) (e : TypeId) (i : TypeInfo) (z : Value) (size bytes : Nat) (ht : P.underlying t = some (.slice e)) (hi : P.info? e = some i) (hz : i.zero = some z)
    (hsize : i.size = size) (hby : i.bytes = bytes) (hzs : z.cells.size = size) (hsz : 0 < size)
    (v : Value) (n : Nat) (xs : List Value) (hs : a.eval s = v) (hown : w.ownsRow base e size v n xs) (us : Array Value) (hus : us.size = size) (h1 : ∀ u ∈ us.toList, u.oneCell' = true)
    (hx : a.eval x = .slice (some ⟨w.heap.size, 0, none⟩) 1 1) (hn : n < 1073741824) (hbytes : bytes ≤ 4096) (hbase : base ≤ w.heap.size)
    (h : ∀ v' w', w'.ownsRow base e size v' (n + 1) (xs ++ us.toList) → Below base w w' → w.grownBy w' v.ownBlock → wpList P ops Q rest (a.put o.dst v') w') :
    wpList P ops Q (o :: rest) a (w.alloc (.cells us e)) := by
  refine wpList_append_own (w := w.alloc (.cells us e)) hgd s x t ho base e i z size bytes ht hi hz hsize hby hzs hsz v n xs hs (hown.alloc _) ⟨w.heap.size, 0, none⟩ 1 1 us.toList hx (by simp [hus]) ?_ h1 ?_ ?_ ?_ ?_
  · intro j u hj
    have := World.cell?_alloc_mark w us e (0, 0) j
    rw [Array.getElem?_toList] at hj
    rw [← hj, ← this]
    by_cases hj0 : j = 0
    · subst hj0
      rfl
    · simp [Addr.add, hj0]
  · unfold maxLen; omega
  · calc (n + 1) * bytes ≤ 1073741824 * 4096 := Nat.mul_le_mul (by omega) hbytes
      _ ≤ _ := by decide
  · simp; omega
  · intro v' w' ho' hg _
    have hg0 : w.grownBy w' v.ownBlock := by
      have ha := World.grownBy_alloc w (.cells us e) v.ownBlock
      exact ⟨hg.os.trans ha.os, hg.tape.trans ha.tape, hg.output.trans ha.output, Nat.le_trans ha.size hg.size, fun k hk hne => (hg.block k (Nat.lt_of_lt_of_le hk ha.size) hne).trans (ha.block k hk hne)⟩
    exact h v' w' ho' (own_below hown hg0 hbase) hg0
theorem cell_of_row {w : World} {g : Nat} {c : Array Value} {t : TypeId} {f : Nat × Nat} {j : Nat} {v : Value} (h : w.heap[g]? = some (.cells c t f)) (hv : c[j]? = some v) : w.cell? ⟨g, j, none⟩ = some v := by
  simp [World.cell?, h, hv]

theorem both_of_drewN {w w' : World} {g h off : Nat} (n : Nat) (H : Both (w.drewN n) w' g h off) : Both w w' g h off := ⟨⟨H.1.os, H.1.tape, H.1.output, H.1.size, H.1.block⟩, H.2⟩

theorem RS.alloc {w : World} {base : Nat} {b : ByteArray} {pv rv : Value} {S : List (Nat × Nat × Int)} (H : RS w base b pv rv S) (hb : base ≤ w.heap.size) (o : Obj) : RS (w.alloc o) base b pv rv S :=
  ⟨H.own5.alloc _, H.own6.alloc _, fun j s hj => ⟨(H.rd j s hj).1.alloc _, (H.rd j s hj).2⟩, H.nd⟩

theorem RS.p {w : World} {base : Nat} {b : ByteArray} {rv : Value} {S : List (Nat × Nat × Int)} {g5 cap5 k : Nat} {s : Nat × Nat × Int} (H : RS w base b (.slice (some ⟨g5, 0, none⟩) S.length cap5) rv S) (hA : S[k]? = some s) : w.cell? ⟨g5, k, none⟩ = some (.pointer (some ⟨s.1, 0, none⟩)) := by
  have p0 := H.own5.cellAt k (by have := (List.getElem?_eq_some_iff.1 hA).1; omega)
  rw [List.getElem?_map, hA] at p0
  exact p0

theorem cell_both {wx wy : World} {g h off : Nat} {x : Addr} {v : Value} (hB : Both wx wy g h off) (hv : wx.cell? x = some v) (h1 : x.block ≠ g) (h2 : x.block ≠ h) : wy.cell? x = some v := by
  have hb := hB.1.block x.block (World.block_lt_of_cell? wx x hv) (by simp [h1, h2])
  unfold World.cell? at hv ⊢
  rw [hb]
  exact hv

/-- the two slices' blocks and the reader's are three -/
theorem RS.three {w : World} {base : Nat} {b : ByteArray} {S : List (Nat × Nat × Int)} {g5 cap5 g6 cap6 k : Nat} {s : Nat × Nat × Int} (H : RS w base b (.slice (some ⟨g5, 0, none⟩) S.length cap5) (.slice (some ⟨g6, 0, none⟩) S.length cap6) S) (hA : S[k]? = some s) :
    g5 ≠ g6 ∧ s.1 ≠ g5 ∧ s.1 ≠ g6 := by
  obtain ⟨c5, h5⟩ := own_block_type H.own5 rfl
  obtain ⟨c6, h6⟩ := own_block_type H.own6 rfl
  have hr := (H.rd k s hA).1
  exact ⟨block_ne h5 h6 (by decide), block_ne hr h5 (by decide), block_ne hr h6 (by decide)⟩

/-- what the drawn region behind a script's step needs -/
theorem at_region {n5 n6 : Nat} {W : World} {base : Nat} {b : ByteArray} {S : List (Nat × Nat × Int)} {g5 cap5 g6 cap6 k gA pA : Nat} {eA : Int} (H : RS W base b (.slice (some ⟨g5, 0, none⟩) n5 cap5) (.slice (some ⟨g6, 0, none⟩) n6 cap6) S)
    (hA : S[k]? = some (gA, pA, eA)) (kd nn : Int) (hm : -9223372036854775808 ≤ nn ∧ nn ≤ 9223372036854775807) (hb : b.size < 1048577) (hn5 : n5 = S.length) (hn6 : n6 = S.length) (hbw : base ≤ W.heap.size) (ob : Nat) (ho : W.heap[ob]? = some (.cells #[.int .i64 kd, .int .i64 nn] 51 (0, 0))) :
    Hid (Calls Try.prog 28 #[.pointer (some ⟨gA, 0, none⟩), .pointer (some ⟨g6, k * 4, none⟩), .agg #[.int .i64 kd, .int .i64 nn]] W.drew (DoesPost gA g6 (k * 4) b W.drew))
    ∧ Hid (∀ wy, Both W.drew wy gA g6 (k * 4) → wy.cell? ⟨g5, k, none⟩ = some (.pointer (some ⟨gA, 0, none⟩)) ∧ wy.cell? ⟨ob, 0, none⟩ = some (.int .i64 kd) ∧ wy.cell? ⟨ob, 1, none⟩ = some (.int .i64 nn))
    ∧ Hid (∀ wy q f, Both W.drew wy gA g6 (k * 4) → Rdr wy gA b q f → Ref wy g6 (k * 4) b q f (fa f q) → q ≤ b.size → RS wy base b (.slice (some ⟨g5, 0, none⟩) n5 cap5) (.slice (some ⟨g6, 0, none⟩) n6 cap6) (S.set k (gA, q, f)) ∧ Below base W wy) := by
  subst hn5
  subst hn6
  obtain ⟨h56, h5, h6⟩ := H.three hA
  obtain ⟨hr, hbs, hp⟩ := H.rd k _ hA
  have o1 : ob ≠ gA := block_ne ho hr (by decide)
  have o2 : ob ≠ g6 := by
    obtain ⟨c6, h6⟩ := own_block_type H.own6 rfl
    exact block_ne ho h6 (by decide)
  refine ⟨does_any gA g6 (k * 4) b pA eA kd nn W.drew hr (H.ref hA) h6 hp (by omega) hm, ?_, ?_⟩
  · intro wy hB
    exact ⟨cell_both hB (H.p hA) (fun e => h5 e.symm) h56, cell_both hB (cell_of_row ho rfl) o1 o2, cell_both hB (cell_of_row ho rfl) o1 o2⟩
  · intro wy q f hB h1 h2 hq
    have hB' : Both W wy gA g6 (k * 4) := ⟨⟨hB.1.os, hB.1.tape, hB.1.output, hB.1.size, hB.1.block⟩, hB.2⟩
    refine ⟨H.step hA hB' h1 h2 hq, hB'.1.below hbw fun x hx => ?_⟩
    simp at hx
    rcases hx with rfl | rfl
    · exact hbs
    · rcases H.own6.2 with ⟨h2, _⟩ | ⟨g2, cap2, cur2, h2, hb2, _⟩
      · simp at h2
      · simp only [Value.slice.injEq, Option.some.injEq, Addr.mk.injEq, and_true] at h2
        rw [h2.1]
        exact hb2

theorem RS.drewN {w : World} {base : Nat} {b : ByteArray} {pv rv : Value} {S : List (Nat × Nat × Int)} (H : RS w base b pv rv S) (n : Nat) : RS (w.drewN n) base b pv rv S := ⟨H.own5, H.own6, H.rd, H.nd⟩

theorem RS1.ne6 {w : World} {base : Nat} {b : ByteArray} {pv rv : Value} {S : List (Nat × Nat × Int)} {x : Nat × Nat × Int} {ob : Nat} {c : Array Value} (H : RS1 w base b pv rv S x) (ho : w.heap[ob]? = some (.cells c 51 (0, 0))) : some ob ≠ rv.ownBlock := by
  intro he
  obtain ⟨c6, h6⟩ := own_block_type H.own6 he.symm
  exact block_ne ho h6 (by decide) rfl

theorem RS.pLast {w : World} {base : Nat} {b : ByteArray} {rv : Value} {S : List (Nat × Nat × Int)} {g5 cap5 : Nat} {s : Nat × Nat × Int} (H : RS w base b (.slice (some ⟨g5, 0, none⟩) (S.length + 1) cap5) rv (S ++ [s])) : w.cell? ⟨g5, S.length, none⟩ = some (.pointer (some ⟨s.1, 0, none⟩)) := by
  have H' : RS w base b (.slice (some ⟨g5, 0, none⟩) (S ++ [s]).length cap5) rv (S ++ [s]) := by simpa using H
  exact H'.p (by simp)
end Go.Proofs.Ytefablceddbolaa
