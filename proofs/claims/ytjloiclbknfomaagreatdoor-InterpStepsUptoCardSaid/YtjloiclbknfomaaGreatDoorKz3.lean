/- A list of machines, of the program and the document, side by side; a clone more. -/
import Derived.Test.YtjloiclbknfomaaGreatDoorKz2
set_option maxRecDepth 100000
namespace Go.Proofs.YtjloiclbknfomaaGreatDoor
open Go.RowKit Ieee

def ptrA (s : MS) : Value := .pointer (some ⟨s.g, 0, none⟩)
def ptrB (s : MS) : Value := .pointer (some ⟨s.h, 0, none⟩)
structure All (w : World) (base : Nat) (lv av : Value) (S : List MS) : Prop where
  l : w.ownsRow base 38 1 lv S.length (S.map ptrA)
  a : w.ownsRow base 41 1 av S.length (S.map ptrB)
  pr : ∀ (j : Nat) s, S[j]? = some s → Pr w s ∧ ∀ x ∈ s.own, base ≤ x
  nd : ∀ (i j : Nat) s t, S[i]? = some s → S[j]? = some t → i ≠ j → ∀ x ∈ s.own, x ∉ t.own
section
variable {w w' w1 w2 w3 w4 : World} {base k : Nat} {lv av lv' av' : Value} {S : List MS} {s s' : MS}
theorem Pr.own_not (hp : Pr w s) {b : Nat} {t : TypeId} {c : Array Value} (hb : Cells w b t c) (h1 : t ≠ 61) (h2 : t ≠ 63) (h3 : t ≠ 25) (h4 : t ≠ 3) : b ∉ s.own := fun h => by
  rcases List.mem_append.1 h with h | h
  · exact mOwn_not hp.a hb h1 h3 h4 h
  · exact rOwn_not hp.b hb h2 h3 h4 h
theorem All.keep (h : All w base lv av S) (hb : Below w.heap.size w w') : All w' base lv av S :=
  ⟨own_kept h.l hb, own_kept h.a hb, fun j s hj => ⟨(h.pr j s hj).1.keep hb, (h.pr j s hj).2⟩, h.nd⟩
theorem All.went (h : All w base lv av S) (hk : S[k]? = some s) (hw : Went w w' s s') (hb : base ≤ w.heap.size) : All w' base lv av (S.set k s') ∧ Below base w w' := by
  have hkl := (List.getElem?_eq_some_iff.1 hk).1
  obtain ⟨hp, hge⟩ := h.pr k s hk
  have same : ∀ (f : MS → Value), f s' = f s → (S.set k s').map f = S.map f := fun f hf => by
    apply List.ext_getElem?
    intro i
    rw [List.getElem?_map, List.getElem?_map, List.getElem?_set]
    by_cases hi : k = i
    · subst hi
      rw [if_pos rfl, if_pos hkl, hk]
      simp [hf]
    · rw [if_neg hi]
  have eA := same ptrA (by unfold ptrA; rw [hw.g])
  have eB := same ptrB (by unfold ptrB; rw [hw.h])
  refine ⟨⟨?_, ?_, ?_, ?_⟩, hw.turns.below hb hge⟩
  · rw [eA, List.length_set]
    refine row_turns h.l hw.turns fun b hbk => ?_
    obtain ⟨cur, hcur⟩ := own_block_type h.l hbk
    exact hp.own_not hcur (by decide) (by decide) (by decide) (by decide)
  · rw [eB, List.length_set]
    refine row_turns h.a hw.turns fun b hbk => ?_
    obtain ⟨cur, hcur⟩ := own_block_type h.a hbk
    exact hp.own_not hcur (by decide) (by decide) (by decide) (by decide)
  · intro j t hj
    rw [List.getElem?_set] at hj
    by_cases hi : k = j
    · subst hi
      rw [if_pos rfl, if_pos hkl] at hj
      injection hj with hj
      subst hj
      refine ⟨hw.pr, fun x hx => ?_⟩
      rcases hw.own x hx with h1 | h1
      · exact hge x h1
      · omega
    · rw [if_neg hi] at hj
      obtain ⟨h1, h2⟩ := h.pr j t hj
      exact ⟨h1.turns hw.turns hp.noIns (h.nd j k t s hj hk (fun e => hi e.symm)), h2⟩
  · intro i j a b hi hj hne x hx hxb
    rw [List.getElem?_set] at hi hj
    by_cases e1 : k = i
    · subst e1
      rw [if_pos rfl, if_pos hkl] at hi
      injection hi with hi
      subst hi
      rw [if_neg hne] at hj
      rcases hw.own x hx with h1 | h1
      · exact h.nd k j s b hk hj hne x h1 hxb
      · have := (h.pr j b hj).1.own_lt x hxb
        omega
    · rw [if_neg e1] at hi
      by_cases e2 : k = j
      · subst e2
        rw [if_pos rfl, if_pos hkl] at hj
        injection hj with hj
        subst hj
        rcases hw.own x hxb with h1 | h1
        · exact h.nd i k a s hi hk hne x hx h1
        · have := (h.pr i a hi).1.own_lt x hx
          omega
      · rw [if_neg e2] at hj
        exact h.nd i j a b hi hj hne x hx hxb
theorem grown_turnsL {v : Value} (h : w.grownBy w' v.ownBlock) : Turns (ownL v) w w' :=
  ⟨h.os, h.tape, h.output, h.size, fun i hi hn => h.block i hi fun e => hn (by unfold ownL; rw [← e]; simp)⟩
theorem ownL_no {base' size n : Nat} {t : TypeId} {v : Value} {xs : List Value} (h : w.ownsRow base' t size v n xs) {g : Nat} {t' : TypeId} {c : Array Value} (hc : Cells w g t' c) (hne : t ≠ t') : g ∉ ownL v := fun hm => by
  obtain ⟨cur, hcur⟩ := own_block_type h (ownL_mem hm)
  exact block_ne hcur hc hne rfl
theorem ownL_not {base' base'' size size' n n' : Nat} {t t' : TypeId} {v v' : Value} {xs xs' : List Value} (h : w.ownsRow base' t size v n xs) (h' : w.ownsRow base'' t' size' v' n' xs') (hne : t ≠ t') : ∀ k, v'.ownBlock = some k → k ∉ ownL v := fun k hk => by
  obtain ⟨cur, hcur⟩ := own_block_type h' hk
  exact ownL_no h hcur hne
theorem ownL_noIns {base' size n : Nat} {t : TypeId} {v : Value} {xs : List Value} (h : w.ownsRow base' t size v n xs) (hne : t ≠ 77) : NoIns w (ownL v) := fun x hx => by
  obtain ⟨cur, hcur⟩ := own_block_type h (ownL_mem hx)
  exact ⟨t, cur, hcur, hne⟩
theorem All.grow {g' h' : Nat} {nv' pv' nv2' pv2' : Value} (h : All w base lv av S) (hk : S[k]? = some s) (hbw : base ≤ w.heap.size)
    (c1 : Cloned w w1 g' nv' pv') (hM : Mw w1 g' s.cs nv' pv' s.m) (hg1 : w1.grownBy w2 lv.ownBlock) (ho1 : w2.ownsRow base 38 1 lv' (S.length + 1) (S.map ptrA ++ [.pointer (some ⟨g', 0, none⟩)]))
    (c2 : Cloned w2 w3 h' nv2' pv2') (hR : Rw w3 h' s.cs2 nv2' pv2' s.m) (hg2 : w3.grownBy w4 av.ownBlock) (ho2 : w4.ownsRow base 41 1 av' (S.length + 1) (S.map ptrB ++ [.pointer (some ⟨h', 0, none⟩)])) :
    All w4 base lv' av' (S ++ [⟨g', s.cs, nv', pv', h', s.cs2, nv2', pv2', s.m⟩]) := by
  have l1 := own_kept h.l c1.2.2.2
  have a1 := own_kept h.a c1.2.2.2
  have t1 := grown_turnsL hg1
  have a2 := row_turns a1 t1 (ownL_not l1 a1 (by decide))
  have a3 := own_kept a2 c2.2.2.2
  have t2 := grown_turnsL hg2
  have lk : w4.ownsRow base 38 1 lv' (S.length + 1) (S.map ptrA ++ [.pointer (some ⟨g', 0, none⟩)]) := by
    have l3 := own_kept ho1 c2.2.2.2
    exact row_turns l3 t2 (ownL_not a3 l3 (by decide))
  have old : ∀ (j : Nat) t, S[j]? = some t → Pr w4 t := fun j t hj => by
    have p1 := (h.pr j t hj).1.keep c1.2.2.2
    have p2 := p1.turns t1 (ownL_noIns l1 (by decide)) fun x hx hm => by
      obtain ⟨cur, hcur⟩ := own_block_type l1 (ownL_mem hm)
      exact p1.own_not hcur (by decide) (by decide) (by decide) (by decide) hx
    have p3 := p2.keep c2.2.2.2
    exact p3.turns t2 (ownL_noIns a3 (by decide)) fun x hx hm => by
      obtain ⟨cur, hcur⟩ := own_block_type a3 (ownL_mem hm)
      exact p3.own_not hcur (by decide) (by decide) (by decide) (by decide) hx
  have m2 : Mw w2 g' s.cs nv' pv' s.m := hM.turns t1 (ownL_no l1 hM.cells (by decide)) (ownL_not l1 hM.code (by decide)) (ownL_not l1 hM.nums (by decide)) (ownL_not l1 hM.places (by decide))
  have m3 := m2.keep c2.2.2.2
  have m4 : Mw w4 g' s.cs nv' pv' s.m := m3.turns t2 (ownL_no a3 m3.cells (by decide)) (ownL_not a3 m3.code (by decide)) (ownL_not a3 m3.nums (by decide)) (ownL_not a3 m3.places (by decide))
  have r4 : Rw w4 h' s.cs2 nv2' pv2' s.m := hR.turns t2 (ownL_no a3 hR.cells (by decide)) (ownL_not a3 hR.code (by decide)) (ownL_not a3 hR.nums (by decide)) (ownL_not a3 hR.places (by decide))
  have gea : ∀ x ∈ mOwn g' nv' pv', w.heap.size ≤ x := fun x hx => by
    rcases mOwn_cases hx with rfl | hk | hk
    · exact c1.1
    · exact c1.2.1 x hk
    · exact c1.2.2.1 x hk
  have geb : ∀ x ∈ mOwn h' nv2' pv2', w2.heap.size ≤ x := fun x hx => by
    rcases mOwn_cases hx with rfl | hk | hk
    · exact c2.1
    · exact c2.2.1 x hk
    · exact c2.2.2.1 x hk
  have s12 : w1.heap.size ≤ w2.heap.size := hg1.size
  have s01 : w.heap.size ≤ w1.heap.size := c1.2.2.2.size
  obtain ⟨hp, _⟩ := h.pr k s hk
  have pn : Pr w4 ⟨g', s.cs, nv', pv', h', s.cs2, nv2', pv2', s.m⟩ := ⟨m4, r4, fun x hx hx2 => by
    have h1 := hM.own_lt x hx
    have h2 := geb x hx2
    omega, hp.fit, hp.goes⟩
  have gen : ∀ x ∈ (⟨g', s.cs, nv', pv', h', s.cs2, nv2', pv2', s.m⟩ : MS).own, w.heap.size ≤ x := fun x hx => by
    rcases List.mem_append.1 hx with hx | hx
    · exact gea x hx
    · have := geb x hx
      omega
  have at_ : ∀ (j : Nat) t, (S ++ [⟨g', s.cs, nv', pv', h', s.cs2, nv2', pv2', s.m⟩])[j]? = some t → (j < S.length ∧ S[j]? = some t) ∨ (j = S.length ∧ t = ⟨g', s.cs, nv', pv', h', s.cs2, nv2', pv2', s.m⟩) := fun j t hj => by
    rw [List.getElem?_append] at hj
    split at hj
    · rename_i hlt
      exact .inl ⟨hlt, hj⟩
    · rename_i hlt
      rw [List.getElem?_singleton] at hj
      split at hj
      · injection hj with hj
        exact .inr ⟨by omega, hj.symm⟩
      · cases hj
  refine ⟨?_, ?_, ?_, ?_⟩
  · rw [List.map_append, List.length_append]
    exact lk
  · rw [List.map_append, List.length_append]
    exact ho2
  · intro j t hj
    rcases at_ j t hj with ⟨_, h1⟩ | ⟨_, rfl⟩
    · exact ⟨old j t h1, (h.pr j t h1).2⟩
    · exact ⟨pn, fun x hx => Nat.le_trans hbw (gen x hx)⟩
  · intro i j a b hi hj hne x hx hxb
    rcases at_ i a hi with ⟨l1, h1⟩ | ⟨l1, rfl⟩ <;> rcases at_ j b hj with ⟨l2, h2⟩ | ⟨l2, rfl⟩
    · exact h.nd i j a b h1 h2 hne x hx hxb
    · have q1 := (h.pr i a h1).1.own_lt x hx
      have q2 := gen x hxb
      omega
    · have q1 := (h.pr j b h2).1.own_lt x hxb
      have q2 := gen x hx
      omega
    · omega
theorem All.pA {A : Option Addr} {n c : Nat} (h : All w base (.slice A n c) av S) (hk : S[k]? = some s) : ∃ b, A = some ⟨b, 0, none⟩ ∧ w.cell? ⟨b, k, none⟩ = some (.pointer (some ⟨s.g, 0, none⟩)) := by
  have hkl := (List.getElem?_eq_some_iff.1 hk).1
  have hl := h.l
  rcases own_shape hl with ⟨hv, hn⟩ | ⟨b, cap, hv, _⟩
  · omega
  · injection hv with hA hl2 hc
    subst hA hl2 hc
    have := hl.cellAt k (by omega)
    rw [List.getElem?_map, hk] at this
    exact ⟨b, rfl, this⟩
theorem All.pB {A : Option Addr} {n c : Nat} (h : All w base lv (.slice A n c) S) (hk : S[k]? = some s) : ∃ b, A = some ⟨b, 0, none⟩ ∧ w.cell? ⟨b, k, none⟩ = some (.pointer (some ⟨s.h, 0, none⟩)) := by
  have hkl := (List.getElem?_eq_some_iff.1 hk).1
  have hl := h.a
  rcases own_shape hl with ⟨hv, hn⟩ | ⟨b, cap, hv, _⟩
  · omega
  · injection hv with hA hl2 hc
    subst hA hl2 hc
    have := hl.cellAt k (by omega)
    rw [List.getElem?_map, hk] at this
    exact ⟨b, rfl, this⟩
theorem All.pA1 {b n c : Nat} (h : All w base (.slice (some ⟨b, 0, none⟩) n c) av S) (hk : S[k]? = some s) : w.cell? ⟨b, k, none⟩ = some (.pointer (some ⟨s.g, 0, none⟩)) := by
  obtain ⟨b', e, hc⟩ := h.pA hk
  injection e with e
  injection e with e
  rw [e]
  exact hc
theorem All.pB1 {b n c : Nat} (h : All w base lv (.slice (some ⟨b, 0, none⟩) n c) S) (hk : S[k]? = some s) : w.cell? ⟨b, k, none⟩ = some (.pointer (some ⟨s.h, 0, none⟩)) := by
  obtain ⟨b', e, hc⟩ := h.pB hk
  injection e with e
  injection e with e
  rw [e]
  exact hc
theorem All.mid {g' : Nat} {nv' pv' : Value} (h : All w base lv av S) (hk : S[k]? = some s) (c1 : Cloned w w1 g' nv' pv') (hg1 : w1.grownBy w2 lv.ownBlock) :
    w2.ownsRow base 41 1 av S.length (S.map ptrB) ∧ Rw w2 s.h s.cs2 s.nv2 s.pv2 s.m := by
  have l1 := own_kept h.l c1.2.2.2
  have a1 := own_kept h.a c1.2.2.2
  have t1 := grown_turnsL hg1
  have r1 := (h.pr k s hk).1.b.keep c1.2.2.2
  exact ⟨row_turns a1 t1 (ownL_not l1 a1 (by decide)), r1.turns t1 (ownL_no l1 r1.cells (by decide)) (ownL_not l1 r1.code (by decide)) (ownL_not l1 r1.nums (by decide)) (ownL_not l1 r1.places (by decide))⟩
theorem All.below_own (h : All w base lv av S) (hk : S[k]? = some s) (hb : base ≤ w.heap.size) (hc : Below w.heap.size w w1) (ht : Turns (mOwn s.g s.nv s.pv) w1 w2) : Below base w w2 :=
  (hc.mono hb).trans (ht.below (Nat.le_trans hb hc.size) fun x hx => (h.pr k s hk).2 x (List.mem_append.2 (.inl hx)))
end
end Go.Proofs.YtjloiclbknfomaaGreatDoor
