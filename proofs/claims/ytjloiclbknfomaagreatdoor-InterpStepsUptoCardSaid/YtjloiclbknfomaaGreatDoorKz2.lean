/- Both machines side by side; a step of both, a row of steps of both (contracts). -/
import Derived.Test.YtjloiclbknfomaaGreatDoorKz1
import Derived.Test.YtjloiclbknfomaaGreatDoorKne
set_option maxRecDepth 100000
namespace Go.Proofs.YtjloiclbknfomaaGreatDoor
open Go.RowKit Ieee

/-- a machine of the program and the document's: their blocks, and how both stand -/
structure MS where
  g : Nat
  cs : Value
  nv : Value
  pv : Value
  h : Nat
  cs2 : Value
  nv2 : Value
  pv2 : Value
  m : Mach
def MS.own (s : MS) : List Nat := mOwn s.g s.nv s.pv ++ mOwn s.h s.nv2 s.pv2
structure Pr (w : World) (s : MS) : Prop where
  a : Mw w s.g s.cs s.nv s.pv s.m
  b : Rw w s.h s.cs2 s.nv2 s.pv2 s.m
  ap : ∀ x ∈ mOwn s.g s.nv s.pv, x ∉ mOwn s.h s.nv2 s.pv2
  fit : s.m.Fit
  goes : s.m.Goes
/-- no block of instructions among them -/
def NoIns (w : World) (S : List Nat) : Prop := ∀ x ∈ S, ∃ t c, Cells w x t c ∧ t ≠ 77
theorem noIns_code {w : World} {base size n : Nat} {v : Value} {xs : List Value} {S : List Nat} (h : w.ownsRow base 77 size v n xs) (hS : NoIns w S) : ∀ k, v.ownBlock = some k → k ∉ S := by
  intro k hk hm
  obtain ⟨t, c, hc, hne⟩ := hS k hm
  obtain ⟨cur, hcur⟩ := own_block_type h hk
  exact block_ne hcur hc (Ne.symm hne) rfl
theorem own_cells {w : World} {base size n : Nat} {t : TypeId} {v : Value} {xs : List Value} (h : w.ownsRow base t size v n xs) {k : Nat} (hk : v.ownBlock = some k) : ∃ c, Cells w k t c := own_block_type h hk
theorem mOwn_cases {g : Nat} {nv pv : Value} {x : Nat} (hx : x ∈ mOwn g nv pv) : x = g ∨ nv.ownBlock = some x ∨ pv.ownBlock = some x := by
  unfold mOwn at hx
  rcases List.mem_cons.1 hx with rfl | hx
  · exact .inl rfl
  rcases List.mem_append.1 hx with hx | hx
  · cases h : nv.ownBlock with
    | none => rw [h] at hx; cases hx
    | some k => rw [h] at hx; simp at hx; exact .inr (.inl (by rw [hx]))
  · cases h : pv.ownBlock with
    | none => rw [h] at hx; cases hx
    | some k => rw [h] at hx; simp at hx; exact .inr (.inr (by rw [hx]))
section
variable {w w' w1 w2 : World} {g : Nat} {cs nv pv : Value} {m : Mach}
theorem mOwn_noIns (hM : Mw w g cs nv pv m) : NoIns w (mOwn g nv pv) := fun x hx => by
  rcases mOwn_cases hx with rfl | hk | hk
  · exact ⟨_, _, hM.cells, by decide⟩
  · obtain ⟨c, hc⟩ := own_cells hM.nums hk
    exact ⟨_, c, hc, by decide⟩
  · obtain ⟨c, hc⟩ := own_cells hM.places hk
    exact ⟨_, c, hc, by decide⟩
theorem rOwn_noIns (hM : Rw w g cs nv pv m) : NoIns w (mOwn g nv pv) := fun x hx => by
  rcases mOwn_cases hx with rfl | hk | hk
  · exact ⟨_, _, hM.cells, by decide⟩
  · obtain ⟨c, hc⟩ := own_cells hM.nums hk
    exact ⟨_, c, hc, by decide⟩
  · obtain ⟨c, hc⟩ := own_cells hM.places hk
    exact ⟨_, c, hc, by decide⟩
theorem Rw.own_lt (h : Rw w g cs nv pv m) : ∀ k ∈ mOwn g nv pv, k < w.heap.size := fun k hk => by
  rcases mOwn_cases hk with rfl | hk | hk
  · exact h.lt
  · exact (h.nums.lt k hk).2
  · exact (h.places.lt k hk).2
theorem NoIns.app {S S' : List Nat} (h : NoIns w S) (h' : NoIns w S') : NoIns w (S ++ S') := fun x hx => by
  rcases List.mem_append.1 hx with hx | hx
  · exact h x hx
  · exact h' x hx
variable {s : MS}
theorem Pr.own_lt (hp : Pr w s) : ∀ x ∈ s.own, x < w.heap.size := fun x hx => by
  rcases List.mem_append.1 hx with hx | hx
  · exact hp.a.own_lt x hx
  · exact hp.b.own_lt x hx
theorem Pr.noIns (hp : Pr w s) : NoIns w s.own := (mOwn_noIns hp.a).app (rOwn_noIns hp.b)
theorem Pr.turns {S : List Nat} (hp : Pr w s) (ht : Turns S w w') (hI : NoIns w S) (hd : ∀ x ∈ s.own, x ∉ S) : Pr w' s :=
  have ha : ∀ x ∈ mOwn s.g s.nv s.pv, x ∉ S := fun x hx => hd x (List.mem_append.2 (.inl hx))
  have hb : ∀ x ∈ mOwn s.h s.nv2 s.pv2, x ∉ S := fun x hx => hd x (List.mem_append.2 (.inr hx))
  ⟨hp.a.turns ht (ha _ (mOwn_g _ _ _)) (noIns_code hp.a.code hI) (fun _ hk => ha _ (mOwn_n hk)) (fun _ hk => ha _ (mOwn_p hk)),
   hp.b.turns ht (hb _ (mOwn_g _ _ _)) (noIns_code hp.b.code hI) (fun _ hk => hb _ (mOwn_n hk)) (fun _ hk => hb _ (mOwn_p hk)), hp.ap, hp.fit, hp.goes⟩
theorem Pr.keep (hp : Pr w s) (hb : Below w.heap.size w w') : Pr w' s := ⟨hp.a.keep hb, hp.b.keep hb, hp.ap, hp.fit, hp.goes⟩
theorem Pr.rkeep (hp : Pr w s) (ht : Turns (mOwn s.g s.nv s.pv) w w1) : Rw w1 s.h s.cs2 s.nv2 s.pv2 s.m :=
  hp.b.turns ht (fun h => hp.ap _ h (mOwn_g _ _ _)) (noIns_code hp.b.code (mOwn_noIns hp.a)) (fun _ hk h => hp.ap _ h (mOwn_n hk)) (fun _ hk h => hp.ap _ h (mOwn_p hk))
/-- what an operation of both leaves -/
structure Went (w w' : World) (s s' : MS) : Prop where
  pr : Pr w' s'
  g : s'.g = s.g
  h : s'.h = s.h
  own : ∀ x ∈ s'.own, x ∈ s.own ∨ w.heap.size ≤ x
  turns : Turns s.own w w'
theorem Went.keep {s' : MS} (h : Went w w1 s s') (hb : Below w1.heap.size w1 w') : Went w w' s s' :=
  ⟨h.pr.keep hb, h.g, h.h, h.own, h.turns.trans (Turns.of_below (S := s.own) hb)⟩
theorem Pr.same (hp : Pr w s) (hb : Below w.heap.size w w') : Went w w' s s := ⟨hp.keep hb, rfl, rfl, fun _ hx => .inl hx, Turns.of_below hb⟩
theorem Pr.both {S2 : List Nat} {nv' pv' nv2' pv2' : Value} {m' : Mach} (hp : Pr w s) (h1 : Anew w s.nv nv') (h2 : Anew w s.pv pv') (hM : Mw w1 s.g s.cs nv' pv' m') (ht1 : Turns (mOwn s.g s.nv s.pv) w w1)
    (h3 : Anew w1 s.nv2 nv2') (h4 : Anew w1 s.pv2 pv2') (hR : Rw w2 s.h s.cs2 nv2' pv2' m') (ht2 : Turns S2 w1 w2) (hS : ∀ x ∈ S2, x ∈ mOwn s.h s.nv2 s.pv2 ∨ (w.heap.size ≤ x ∧ x ∉ mOwn s.g nv' pv')) (hI : NoIns w1 S2) (hf : m'.Fit) (hg : m'.Goes) :
    Went w w2 s ⟨s.g, s.cs, nv', pv', s.h, s.cs2, nv2', pv2', m'⟩ := by
  have far : ∀ x ∈ mOwn s.g nv' pv', x ∉ mOwn s.h s.nv2 s.pv2 := fun x hx hx2 => by
    rcases mOwn_anew h1 h2 x hx with h | h
    · exact hp.ap x h hx2
    · have := hp.b.own_lt x hx2
      omega
  have hd : ∀ x ∈ mOwn s.g nv' pv', x ∉ S2 := fun x hx hx2 => by
    rcases hS x hx2 with h | h
    · exact far x hx h
    · exact h.2 hx
  refine ⟨⟨hM.turns ht2 (hd _ (mOwn_g _ _ _)) (noIns_code hM.code hI) (fun _ hk => hd _ (mOwn_n hk)) (fun _ hk => hd _ (mOwn_p hk)), hR, ?_, hf, hg⟩, rfl, rfl, ?_, ?_⟩
  · intro x hx hx2
    rcases mOwn_anew h3 h4 x hx2 with h | h
    · exact far x hx h
    · have := hM.own_lt x hx
      omega
  · intro x hx
    rcases List.mem_append.1 hx with hx | hx
    · exact (mOwn_anew h1 h2 x hx).imp (fun h => List.mem_append.2 (.inl h)) id
    · rcases mOwn_anew h3 h4 x hx with h | h
      · exact .inl (List.mem_append.2 (.inr h))
      · exact .inr (Nat.le_trans ht1.size h)
  · refine Turns.trans' (ht1.mono fun x hx => .inl (List.mem_append.2 (.inl hx))) ht2 fun x hx => ?_
    rcases hS x hx with h | h
    · exact .inl (List.mem_append.2 (.inr h))
    · exact .inr h.1
end
/-- a step, if it has not ended -/
def stepO (m : Mach) : Mach := if m.over = true then m else (stepM m).1

set_option maxHeartbeats 2000000 in
theorem steps_any {w : World} {s : MS} (hp : Pr w s) (hT : ∀ wz, Turns (mOwn s.g s.nv s.pv) w wz → TabsAt wz) :
    Calls Tryz.prog 14 #[.pointer (some ⟨s.g, 0, none⟩), .pointer (some ⟨s.h, 0, none⟩)] w fun e w' => e = .returned (.bool true) ∧ ∃ s', Went w w' s s' ∧ s'.m = stepO s.m := by
  cases ho : s.m.over with
  | true =>
    have KS := Lib.hid (step_over hp.a ho)
    have KR := Lib.hid fun (W : World) (hW : Below w.heap.size w W) => rstep_over (hp.b.keep hW) ho
    have HP := Lib.hid hp
    have HST : Hid (stepO s.m = s.m) := Lib.hid (if_pos ho)
    clear hp hT ho
    go_enter Tryz.func14, Tryz.ntmps14
    go_upto_region 2 with (go_at_call 20; go_loud (with_reducible (refine KS.out.mono ?_)); rintro _ w1 ⟨rfl, hb1⟩; have HB1 := Lib.hid hb1; clear hb1)
    have HB2 := Lib.hid (HB1.out.alloc HB1.out.size (.cells #[.int .i64 0, .string ⟨#[]⟩] 56))
    go_wp2_with (go_at_call 17; go_loud (with_reducible (refine (KR.out _ HB2.out).mono ?_)); rintro _ _ ⟨rfl, rfl⟩)
    go_ret
    exact ⟨by first | rfl | simp, _, HP.out.same HB2.out, HST.out.symm⟩
  | false =>
    have KS := Lib.hid (step_any hp.a hp.fit hp.goes ho hT)
    have KR := Lib.hid fun (W : World) (hW : Turns (mOwn s.g s.nv s.pv) w W) => rstep_any (hp.rkeep hW) hp.fit hp.goes ho
    have HF := Lib.hid (stepM_fit (P := Tryz.prog) w hp.fit hp.goes ho)
    have HP := Lib.hid hp
    have HST : Hid (stepO s.m = (stepM s.m).1) := Lib.hid (if_neg (by rw [ho]; decide))
    clear hp hT ho
    generalize stepM s.m = st at *
    go_enter Tryz.func14, Tryz.ntmps14
    go_upto_region 2 with (go_at_call 20; go_loud (with_reducible (refine KS.out.mono ?_)); go_loud (rintro _ w1 ⟨rfl, nv1, pv1, ha1, hb1, hM1, hT1⟩); have HX1 := Lib.hid (And.intro ha1 (And.intro hb1 (And.intro hM1 hT1))); clear ha1 hb1 hM1 hT1)
    have HAC := Lib.hid (Cells.new w1 56 #[.int .i64 st.2.1, .string ⟨st.2.2.toArray⟩])
    have HAL := Lib.hid ((Below.refl w1.heap.size w1).alloc (Nat.le_refl _) (.cells #[.int .i64 st.2.1, .string ⟨st.2.2.toArray⟩] 56))
    have HT1 := Lib.hid (HX1.out.2.2.2.trans (Turns.of_below (S := mOwn s.g s.nv s.pv) HAL.out))
    have HLT := Lib.hid (Nat.lt_of_lt_of_le (HP.out.b.own_lt _ (mOwn_g _ _ _)) HX1.out.2.2.2.size)
    have HSZ := Lib.hid HX1.out.2.2.2.size
    generalize hwa : w1.alloc (.cells #[.int .i64 st.2.1, .string ⟨st.2.2.toArray⟩] 56) = wa at *
    go_upto_region 3 with (go_at_call 17; go_loud (with_reducible (refine (KR.out _ HT1.out).mono ?_)); go_loud (rintro _ w2 ⟨nv2, pv2, rfl, ha2, hb2, hR2, hT2⟩); have HX2 := Lib.hid (And.intro ha2 (And.intro hb2 (And.intro hR2 hT2))); clear ha2 hb2 hR2 hT2)
    have hnot : w1.heap.size ∉ mOwn s.h s.nv2 s.pv2 := fun h => by
      have h1 := HP.out.b.own_lt _ h
      have := HSZ.out
      omega
    have hAC := HAC.out.turns HX2.out.2.2.2 hnot
    have c0 := hAC.cell (j := 0) rfl
    have c1 := hAC.cell (j := 1) rfl
    have e1 : bstr st.2.2 = .string ⟨st.2.2.toArray⟩ := rfl
    clear hAC hnot hwa
    go_wp2
    go_ret
    refine ⟨by first | rfl | simp, _, HP.out.both HX1.out.1 HX1.out.2.1 (HX1.out.2.2.1.keep HAL.out) HT1.out HX2.out.1 HX2.out.2.1 HX2.out.2.2.1 HX2.out.2.2.2 (fun x hx => .inl hx) ?_ HF.out.1 HF.out.2.1, HST.out.symm⟩
    exact rOwn_noIns (HP.out.rkeep HT1.out)

/-- the block of a row -/
def ownL (v : Value) : List Nat := v.ownBlock.toList
theorem own_setc {w : World} {base n n' cap i size : Nat} {A : Option Addr} {e : TypeId} {xs : List Value} (h : w.ownsRow base e size (.slice A n' cap) n xs) (hi : i < xs.length) (u : Value) :
    ∃ b, A = some ⟨b, 0, none⟩ ∧ base ≤ b ∧ (∃ v, w.cell? ⟨b, i, none⟩ = some v) ∧ w.frozen? ⟨b, i, none⟩ = false ∧ (w.setCell ⟨b, i, none⟩ u).ownsRow base e size (.slice A n' cap) n (xs.set i u) := by
  have hlen := h.1
  rcases h.2 with ⟨hv, hn⟩ | ⟨b, cap', cur, hv, hb, hh, hle, hm, hsz, ht⟩
  · subst hn
    simp at hlen
    subst hlen
    simp at hi
  · injection hv with hA hn hc
    subst hA hn hc
    have hxl : xs.length ≤ cur.size := by
      rw [hlen, hsz]
      exact Nat.mul_le_mul_right _ hle
    refine ⟨b, rfl, hb, ⟨cur[i]'(by omega), Cells.cell (t := e) hh (Array.getElem?_eq_getElem _)⟩, Cells.fz (t := e) hh i, ⟨by rw [List.length_set]; exact h.1, .inr ⟨b, cap, cur.setIfInBounds i u, rfl, hb, Cells.set (t := e) hh i u, hle, hm, by simpa using hsz, ?_⟩⟩⟩
    rw [← ht, Array.toList_setIfInBounds, List.take_set]
theorem flat_set : ∀ (L : List (Int × List UInt8)) (k : Nat) (a : Int × List UInt8) (s : List UInt8), L[k]? = some a → (L.flatMap actCells).set (k * 2 + 1) (.string ⟨s.toArray⟩) = (L.set k (a.1, s)).flatMap actCells
  | [], k, a, s, h => by simp at h
  | y :: L, 0, a, s, h => by
    simp at h
    subst h
    rfl
  | y :: L, k + 1, a, s, h => by
    have h' : L[k]? = some a := by simpa using h
    have ih := flat_set L k a s h'
    rw [List.set_cons_succ, List.flatMap_cons, List.flatMap_cons, ← ih, show (k + 1) * 2 + 1 = (k * 2 + 1) + 2 by omega]
    rfl
theorem flat_acts (L : List (Int × List UInt8)) : (L.flatMap actCells).length = L.length * 2 := by
  induction L with
  | nil => rfl
  | cons y L ih => rw [List.flatMap_cons, List.length_append, ih]; simp [actCells]; omega

theorem meas_up {D j : Nat} (h : j < D) (hw : wrap64 ((j : Int) + 1) = (j : Int) + 1) : D - (intOf (.int .i64 (wrap64 ((j : Int) + 1)))).toNat < D - (intOf (.int .i64 (j : Int))).toNat ∧ D - (intOf (.int .i64 ((j : Int) + 1))).toNat < D - (intOf (.int .i64 (j : Int))).toNat := by
  rw [hw]
  constructor
  all_goals
    simp [intOf]
    omega
theorem le_up {j : Nat} {most : Int} (h : (j : Int) < most) : ((j + 1 : Nat) : Int) ≤ max most 0 := by omega
theorem acts_all (l : List (Int × List UInt8)) : (chunksOf l).length + (piecesOf l).length = l.length := by
  induction l with
  | nil => rfl
  | cons a l ih =>
    unfold chunksOf piecesOf at ih ⊢
    by_cases h : a.1 = 1 <;> simp [h] at ih ⊢ <;> omega
theorem ownL_mem {v : Value} {k : Nat} (h : k ∈ ownL v) : v.ownBlock = some k := by
  unfold ownL at h
  simpa using h
theorem acts_prefix {m : Mach} {j k : Nat} (h : j ≤ k) : ∃ r, (runM k m).2 = (runM j m).2 ++ r := by
  obtain ⟨d, rfl⟩ := Nat.exists_eq_add_of_le h
  exact ⟨_, by rw [runM_add]⟩
theorem acts_next {m : Mach} {j k : Nat} (ho : (runM j m).1.over = false) (hn : (stepM (runM j m).1).2.1 ≠ 0) (h : j < k) : (runM k m).2[(runM j m).2.length]? = some (stepM (runM j m).1).2 ∧ (runM (j + 1) m).2.length = (runM j m).2.length + 1 ∧ (runM j m).2.length < (runM k m).2.length := by
  obtain ⟨r, hr⟩ := acts_prefix (m := m) (show j + 1 ≤ k from h)
  have e := runM_snoc ho
  rw [toldOf_one hn] at e
  have e2 : (runM (j + 1) m).2 = (runM j m).2 ++ [(stepM (runM j m).1).2] := by rw [e]
  rw [hr, e2]
  refine ⟨?_, ?_, ?_⟩
  · rw [List.append_assoc, List.getElem?_append_right (Nat.le_refl _)]
    simp
  · simp
  · simp
theorem acts_still {m : Mach} {j : Nat} (ho : (runM j m).1.over = false) (hn : (stepM (runM j m).1).2.1 = 0) : (runM (j + 1) m).2 = (runM j m).2 := by
  rw [runM_snoc ho]
  unfold toldOf
  rw [if_pos hn]
  simp

/-- what is there while both run -/
structure Ran (w w1 wr : World) (s : MS) (A : Option Addr) (c : Nat) (L : List (Int × List UInt8)) (j : Nat) (nv2 pv2 : Value) (L' : List (Int × List UInt8)) : Prop where
  n : Anew w1 s.nv2 nv2
  p : Anew w1 s.pv2 pv2
  r : Rw wr s.h s.cs2 nv2 pv2 (runM j s.m).1
  acts : ActsIn wr w.heap.size (.slice A L.length c) L'
  len : L'.length = L.length
  same : ∀ i, (runM j s.m).2.length ≤ i → L'[i]? = L[i]?
  turns : Turns (ownL (.slice A L.length c) ++ mOwn s.h s.nv2 s.pv2) w1 wr
section
variable {w w1 wr w3 : World} {s : MS} {A : Option Addr} {c j : Nat} {L L' : List (Int × List UInt8)} {nv2 pv2 nv3 pv3 : Value}
theorem Ran.stepped (h : Ran w w1 wr s A c L j nv2 pv2 L') (ho : (runM j s.m).1.over = false) (h1 : Anew wr nv2 nv3) (h2 : Anew wr pv2 pv3) (hR : Rw w3 s.h s.cs2 nv3 pv3 (stepM (runM j s.m).1).1) (ht : Turns (mOwn s.h nv2 pv2) wr w3) :
    Rw w3 s.h s.cs2 nv3 pv3 (runM (j + 1) s.m).1 ∧ ActsIn w3 w.heap.size (.slice A L.length c) L' ∧ Anew w1 s.nv2 nv3 ∧ Anew w1 s.pv2 pv3 ∧ Turns (ownL (.slice A L.length c) ++ mOwn s.h s.nv2 s.pv2) w1 w3 := by
  have e : (runM (j + 1) s.m).1 = (stepM (runM j s.m).1).1 := by rw [runM_snoc ho]
  refine ⟨e ▸ hR, row_turns h.acts ht fun k hk => ?_, anew_trans h.n h1 h.turns.size, anew_trans h.p h2 h.turns.size, Turns.trans' h.turns ht fun x hx => ?_⟩
  · obtain ⟨cur, hcur⟩ := own_block_type h.acts hk
    exact rOwn_not h.r hcur (by decide) (by decide) (by decide)
  · exact (mOwn_anew h.n h.p x hx).imp (fun h => List.mem_append.2 (.inr h)) id
theorem Ran.quiet (h : Ran w w1 wr s A c L j nv2 pv2 L') (ho : (runM j s.m).1.over = false) (hn : (stepM (runM j s.m).1).2.1 = 0) (h1 : Anew wr nv2 nv3) (h2 : Anew wr pv2 pv3) (hR : Rw w3 s.h s.cs2 nv3 pv3 (stepM (runM j s.m).1).1) (ht : Turns (mOwn s.h nv2 pv2) wr w3) :
    Ran w w1 w3 s A c L (j + 1) nv3 pv3 L' := by
  obtain ⟨a, b, c1, d, e⟩ := h.stepped ho h1 h2 hR ht
  exact ⟨c1, d, a, b, h.len, by rw [acts_still ho hn]; exact h.same, e⟩
theorem Ran.told (h : Ran w w1 wr s A c L j nv2 pv2 L') (ho : (runM j s.m).1.over = false) (hn : (stepM (runM j s.m).1).2.1 ≠ 0) {k : Nat} (hk : j < k) (hL : L = (runM k s.m).2) (h1 : Anew wr nv2 nv3) (h2 : Anew wr pv2 pv3) (hR : Rw w3 s.h s.cs2 nv3 pv3 (stepM (runM j s.m).1).1) (ht : Turns (mOwn s.h nv2 pv2) wr w3) :
    ∃ b, A = some ⟨b, 0, none⟩ ∧ w3.cell? ⟨b, (runM j s.m).2.length * 2, none⟩ = some (.int .i64 (stepM (runM j s.m).1).2.1) ∧ w3.cell? ⟨b, (runM j s.m).2.length * 2 + 1, none⟩ = some (.string ⟨(stepM (runM j s.m).1).2.2.toArray⟩) ∧ w3.frozen? ⟨b, (runM j s.m).2.length * 2 + 1, none⟩ = false ∧
      (runM j s.m).2.length < L.length ∧ (runM (j + 1) s.m).2.length = (runM j s.m).2.length + 1 ∧
      Ran w w1 (w3.setCell ⟨b, (runM j s.m).2.length * 2 + 1, none⟩ (.string ⟨#[115, 112, 111, 105, 108, 116]⟩)) s A c L (j + 1) nv3 pv3 (L'.set (runM j s.m).2.length ((stepM (runM j s.m).1).2.1, [115, 112, 111, 105, 108, 116])) := by
  obtain ⟨hR3, hA3, c1, d, e⟩ := h.stepped ho h1 h2 hR ht
  obtain ⟨g1, g2, g3⟩ := acts_next ho hn hk
  have ga : L'[(runM j s.m).2.length]? = some (stepM (runM j s.m).1).2 := by rw [h.same _ (Nat.le_refl _), hL]; exact g1
  obtain ⟨b, rfl, hb, q0, q1⟩ := acts_at hA3 ga
  have hlt : (runM j s.m).2.length < L'.length := (List.getElem?_eq_some_iff.1 ga).1
  obtain ⟨b', hb', hbb, _, hfz, hrow⟩ := own_setc hA3 (i := (runM j s.m).2.length * 2 + 1) (by rw [flat_acts]; omega) (.string ⟨#[115, 112, 111, 105, 108, 116]⟩)
  injection hb' with hb'
  injection hb' with hb'
  subst hb'
  rw [show (Value.string ⟨#[115, 112, 111, 105, 108, 116]⟩) = .string ⟨([115, 112, 111, 105, 108, 116] : List UInt8).toArray⟩ from rfl, flat_set L' _ _ _ ga] at hrow
  obtain ⟨cur, hcur⟩ := own_block_type hA3 rfl
  refine ⟨b, rfl, q0, q1, hfz, hL ▸ g3, g2, c1, d, ?_, ?_, by rw [List.length_set]; exact h.len, ?_, e.set (.inl (List.mem_append.2 (.inl (by simp [ownL, Value.ownBlock])))) _⟩
  · exact hR3.far (x := ⟨b, (runM j s.m).2.length * 2 + 1, none⟩) (hR3.other hcur (by decide) (by decide) (by decide) (by decide)) _
  · show World.ownsRow _ _ _ _ _ (L'.set _ _).length _
    rw [List.length_set]
    exact hrow
  · intro i hi
    rw [g2] at hi
    rw [List.getElem?_set_ne (by omega)]
    exact h.same i (by omega)
end

set_option maxHeartbeats 4000000 in
set_option maxRecDepth 100000 in
theorem runs_any {w : World} {s : MS} (hp : Pr w s) (hT : ∀ wz, Turns (mOwn s.g s.nv s.pv) w wz → TabsAt wz) (most : Int) (hmo : most ≤ 9223372036854775807) :
    Calls Tryz.prog 11 #[.pointer (some ⟨s.g, 0, none⟩), .pointer (some ⟨s.h, 0, none⟩), .int .i64 most] w fun e w' => e = .returned (.bool true) ∧ ∃ s', Went w w' s s' ∧ s'.m = (runM most.toNat s.m).1 := by
  have KRUN := Lib.hid (run_any hp.a hp.fit hp.goes hT most)
  have HFIT := Lib.hid fun k => runM_fit (P := Tryz.prog) w k hp.fit hp.goes
  have HP := Lib.hid hp
  have HMO := Lib.hid hmo
  clear hp hT hmo
  go_enter Tryz.func11, Tryz.ntmps11
  go_upto_region 2 with (go_at_call 16; go_loud (with_reducible (refine KRUN.out.mono ?_)); go_loud (rintro _ w1 ⟨lv, nv1, pv1, rfl, hA1, ha1, hb1, hM1, hT1⟩); obtain ⟨A7, c7, rfl⟩ := own_slice hA1; have HX1 := Lib.hid (And.intro ha1 (And.intro hb1 (And.intro hM1 (And.intro hT1 hA1)))); clear ha1 hb1 hM1 hT1 hA1)
  clear KRUN
  have HFEW : Hid ((runM most.toNat s.m).2.length < 1073741824) := Lib.hid (by
    obtain ⟨h1, h2, _⟩ := run_counts most.toNat s.m
    have h3 := (HFIT.out most.toNat).1.chunks
    have h4 := (HFIT.out most.toNat).1.pieces
    have h5 := acts_all (runM most.toNat s.m).2
    omega)
  obtain ⟨L, hL⟩ : ∃ L, (runM most.toNat s.m).2 = L := ⟨_, rfl⟩
  rw [hL] at HX1 HFEW ⊢
  have HL := Lib.hid hL
  clear hL
  go_wp2
  go_loopw [8, 9] (fun x y wr => ∃ (j : Nat) (nv2 pv2 : Value) (L' : List (Int × List UInt8)), x = .int .i64 ((runM j s.m).2.length : Nat) ∧ y = .int .i64 (j : Nat) ∧ (j : Int) ≤ max most 0 ∧ Ran w w1 wr s A7 c7 L j nv2 pv2 L') (fun _ y _ => most.toNat - (intOf y).toNat)
  case atStart =>
    exact ⟨0, _, _, L, rfl, rfl, by omega, Anew.refl _ _, Anew.refl _ _, HP.out.rkeep HX1.out.2.2.2.1, HX1.out.2.2.2.2, rfl, fun i _ => rfl, Turns.refl _ _⟩
  case round =>
    obtain ⟨j, nv2, pv2, L', rfl, rfl, hj, hR⟩ := hrel
    have c16 : wr.cell? ⟨s.h, 16, none⟩ = some (.bool (runM j s.m).1.over) := hR.r.cells.cell (j := 16) rfl
    have HR := Lib.hid hR
    have HJ := Lib.hid hj
    have hend : ((j : Int) < most → (runM j s.m).1.over = true) → (runM j s.m).2.length = L.length ∧ (runM j s.m).1 = (runM most.toNat s.m).1 := fun h => by
      have e : runM most.toNat s.m = runM j s.m := by
        rcases Int.lt_or_le (j : Int) most with h1 | h1
        · exact runM_stop (h h1) (by omega)
        · rw [show most.toNat = j by omega]
      rw [← HL.out, e]
      exact ⟨rfl, rfl⟩
    have HEND := Lib.hid hend
    have hfin : (runM j s.m).1 = (runM most.toNat s.m).1 → ∃ s', Went w wr s s' ∧ s'.m = (runM most.toNat s.m).1 := fun e => by
      refine ⟨_, HP.out.both HX1.out.1 HX1.out.2.1 HX1.out.2.2.1 HX1.out.2.2.2.1 HR.out.n HR.out.p (e ▸ HR.out.r) HR.out.turns ?_ ?_ (HFIT.out _).1 (HFIT.out _).2.1, rfl⟩
      · intro x hx
        rcases List.mem_append.1 hx with hx | hx
        · have hk := ownL_mem hx
          obtain ⟨cur, hcur⟩ := own_block_type HX1.out.2.2.2.2 hk
          exact .inr ⟨(HX1.out.2.2.2.2.lt x hk).1, mOwn_not HX1.out.2.2.1 hcur (by decide) (by decide) (by decide)⟩
        · exact .inl hx
      · refine NoIns.app (fun x hx => ?_) (rOwn_noIns (HP.out.rkeep HX1.out.2.2.2.1))
        obtain ⟨cur, hcur⟩ := own_block_type HX1.out.2.2.2.2 (ownL_mem hx)
        exact ⟨_, _, hcur, by decide⟩
    have HFIN := Lib.hid hfin
    clear hj hR hend hfin
    by_cases h1 : (j : Int) < most
    · cases ho : (runM j s.m).1.over with
      | true =>
        rw [ho] at c16
        obtain ⟨e1, e2⟩ := HEND.out fun _ => ho
        have he := HFIN.out e2
        have HE := Lib.hid he
        rw [e1]
        have q0 : (((L.length : Nat) : Int) == ((L.length : Nat) : Int)) = true := by simp
        clear ho e1 e2 he HEND HFIN
        go_wp2
        go_ret
        exact ⟨by first | rfl | simp, HE.out⟩
      | false =>
        rw [ho] at c16
        have HO := Lib.hid ho
        obtain ⟨hFj, hGj, _, _⟩ := HFIT.out j
        have ks := rstep_any HR.out.r hFj hGj ho
        have hnext := acts_next (k := most.toNat) ho
        have hjk : j < most.toNat := by omega
        have HJK := Lib.hid hjk
        have hkw : wrap64 ((j : Int) + 1) = (j : Int) + 1 := by have := HMO.out; unfold wrap64; omega
        have HME := Lib.hid (meas_up hjk hkw)
        have HLU := Lib.hid (le_up h1)
        by_cases h0 : (stepM (runM j s.m).1).2.1 = 0
        · have HQ := Lib.hid fun nv3 pv3 w3 => HR.out.quiet (nv3 := nv3) (pv3 := pv3) (w3 := w3) ho h0
          have HLE := Lib.hid (acts_still ho h0)
          rw [h0] at ks
          have KS := Lib.hid ks
          clear ks ho h0 hnext hjk hFj hGj HEND HFIN
          go_wp2_with (go_at_call 17; go_loud (with_reducible (refine KS.out.mono ?_)); go_loud (rintro _ w3 ⟨nv3, pv3, rfl, hn3, hp3, hM3, hT3⟩); have HN3 := Lib.hid (HQ.out nv3 pv3 w3 hn3 hp3 hM3 hT3); clear hM3 hT3 hn3 hp3)
          exact ⟨⟨j + 1, nv3, pv3, L', by rw [HLE.out], by go_num, HLU.out, HN3.out⟩, by first | exact HME.out.1 | exact HME.out.2⟩
        · have HQ := Lib.hid fun nv3 pv3 w3 => HR.out.told (nv3 := nv3) (pv3 := pv3) (w3 := w3) ho h0 hjk HL.out.symm
          have t0 : ((stepM (runM j s.m).1).2.1 == 0) = false := by rw [beq_eq_false_iff_ne]; exact h0
          have KS := Lib.hid ks
          have hk1 : wrap64 (((runM j s.m).2.length : Int) + 1) = ((runM j s.m).2.length : Int) + 1 := by
            have h1 := (hnext h0 hjk).2.2
            rw [HL.out] at h1
            have := HFEW.out
            unfold wrap64
            omega
          have k0 : (0 : Int) ≤ ((runM j s.m).2.length : Int) := by omega
          clear ks ho h0 hnext hjk hFj hGj HEND HFIN
          obtain ⟨kk, hkk⟩ : ∃ kk, (runM j s.m).2.length = kk := ⟨_, rfl⟩
          obtain ⟨st, hst⟩ : ∃ st, stepM (runM j s.m).1 = st := ⟨_, rfl⟩
          rw [hkk] at HQ hk1 k0 ⊢
          rw [hst] at HQ KS t0
          clear hkk hst
          have eb : bstr st.2.2 = .string ⟨st.2.2.toArray⟩ := rfl
          rw [eb] at KS
          clear eb
          go_wp2_with (go_at_call 17; go_loud (with_reducible (refine KS.out.mono ?_)); go_loud (rintro _ w3 ⟨nv3, pv3, rfl, hn3, hp3, hM3, hT3⟩); go_loud (obtain ⟨b, rfl, q0, q1, f1, hlt, hle, hn⟩ := HQ.out nv3 pv3 w3 hn3 hp3 hM3 hT3); have HN3 := Lib.hid hn; have HLE := Lib.hid hle; have k1 : (kk : Int) < (L.length : Int) := (by omega); clear hM3 hT3 hn3 hp3 hn hle hlt)
          exact ⟨⟨j + 1, nv3, pv3, _, by rw [HLE.out]; go_num, by go_num, HLU.out, HN3.out⟩, by first | exact HME.out.1 | exact HME.out.2⟩
    · have hle : most ≤ (j : Int) := by omega
      obtain ⟨e1, e2⟩ := HEND.out fun h => absurd h h1
      have he := HFIN.out e2
      have HE := Lib.hid he
      rw [e1]
      have q0 : (((L.length : Nat) : Int) == ((L.length : Nat) : Int)) = true := by simp
      clear e1 e2 he HEND HFIN
      go_wp2
      go_ret
      exact ⟨by first | rfl | simp, HE.out⟩
end Go.Proofs.YtjloiclbknfomaaGreatDoor
