/- interp.Whole: what a program tells up to its end (contract). -/
import Derived.Test.YtjloiclbknfomaaGreatDoorKx
set_option maxRecDepth 100000
namespace Go.Proofs.YtjloiclbknfomaaGreatDoor
open Go.RowKit Ieee

def TextsIn (w : World) (base : Nat) (v : Value) (l : List (List UInt8)) : Prop := w.ownsRow base 9 1 v l.length (l.map fun s => Value.string ⟨s.toArray⟩)
theorem info_str : ∃ i, Tryz.prog.info? 9 = some i ∧ i.zero = some (.string ⟨#[]⟩) ∧ i.size = 1 ∧ i.bytes = 16 := info_split (by kernel_rfl)
def chunksOf (l : List (Int × List UInt8)) : List (List UInt8) := (l.filter fun a => a.1 == 1).map (·.2)
def piecesOf (l : List (Int × List UInt8)) : List (List UInt8) := (l.filter fun a => !(a.1 == 1)).map (·.2)
/-- two rows of texts that lie apart -/
def Apart2 (a b : Value) : Prop := ∀ k, a.ownBlock = some k → b.ownBlock ≠ some k
theorem texts_step {w : World} {base : Nat} {v : Value} {l : List (List UInt8)} {s : List UInt8} (h : w.ownsRow base 9 1 v (l.length + 1) ((l.map fun s => Value.string ⟨s.toArray⟩) ++ [.string ⟨s.toArray⟩])) : TextsIn w base v (l ++ [s]) := by
  unfold TextsIn
  simpa using h
theorem texts_other {w w' : World} {base : Nat} {a b : Value} {l : List (List UInt8)} (h : TextsIn w base b l) (hg : w.grownBy w' a.ownBlock) (hd : Apart2 a b) : TextsIn w' base b l := by
  refine World.ownsRow.kept h hg ?_
  cases hb : b.ownBlock with
  | none => exact .inl rfl
  | some k => exact .inr fun e => hd k e.symm hb

theorem whole_bad {fuel : Int} {A : Option Addr} {l : List Ins} {cap : Nat} (w : World) (hC : CodeIn w w.heap.size A l) (hne : (progCheck fuel l).1 ≠ 0) :
    Calls Tryz.prog 5 #[.agg #[.int .i64 fuel, .slice A l.length cap]] w fun e w' => e = .returned (.tuple #[.agg #[.int .i64 0, .int .u64 0, .slice none 0 0, .slice none 0 0, .int .i64 0], .int .i64 (progCheck fuel l).1]) ∧ Below w.heap.size w w' := by
  have kn := fun W (hW : CodeIn W W.heap.size A l) => new_bad (fuel := fuel) (cap := cap) W hW hne
  have hC2 := (hC.keep (((Below.refl _ _).alloc (Nat.le_refl _) (.cells #[.int .i64 fuel, .slice A l.length cap] 24)).alloc (by simp) (.cells #[.int .i64 0, .int .u64 0, .slice none 0 0, .slice none 0 0, .int .i64 0] 30))).more (B' := ((w.alloc (.cells #[.int .i64 fuel, .slice A l.length cap] 24)).alloc (.cells #[.int .i64 0, .int .u64 0, .slice none 0 0, .slice none 0 0, .int .i64 0] 30)).heap.size) (by simp; omega)
  have HC2 := Lib.hid hC2
  have HB0 := Lib.hid (((Below.refl w.heap.size w).alloc (Nat.le_refl _) (.cells #[.int .i64 fuel, .slice A l.length cap] 24)).alloc (by simp) (.cells #[.int .i64 0, .int .u64 0, .slice none 0 0, .slice none 0 0, .int .i64 0] 30))
  have HO0 := Lib.hid (Cells.newAt (w.alloc (.cells #[.int .i64 fuel, .slice A l.length cap] 24)) 30 #[.int .i64 0, .int .u64 0, .slice none 0 0, .slice none 0 0, .int .i64 0] (w.heap.size + 1) (by simp))
  have t1 : ((progCheck fuel l).1 == 0) = false := by rw [beq_eq_false_iff_ne]; exact hne
  clear hC hne hC2
  generalize (progCheck fuel l).1 = p1 at *
  go_enter Tryz.func5, Tryz.ntmps5
  go_wp2_with (go_at_call 9; with_reducible (refine (kn _ HC2.out).mono ?_); rintro _ w2 ⟨rfl, hb⟩; have HB := Lib.hid hb; have HO := Lib.hid (Cells.keep HO0.out hb); have o0 := HO.out.cell (j := 0) rfl; have o1 := HO.out.cell (j := 1) rfl; have o2 := HO.out.cell (j := 2) rfl; have o3 := HO.out.cell (j := 3) rfl; have o4 := HO.out.cell (j := 4) rfl; have of0 := HO.out.fz 0; have of1 := HO.out.fz 1; have of2 := HO.out.fz 2; have of3 := HO.out.fz 3; have of4 := HO.out.fz 4; clear hb)
  refine bodyPost_ret (v := .tuple #[.agg #[.int .i64 0, .int .u64 0, .slice none 0 0, .slice none 0 0, .int .i64 0], .int .i64 p1]) (by simp [results, Tryz.results5, go_sem, o0, o1, o2, o3, o4]) rfl ?_
  exact ⟨rfl, (((((grow_to HB0.out HB.out).setCell (by simp) _).setCell (by simp) _).setCell (by simp) _).setCell (by simp) _).setCell (by simp) _⟩

theorem below_turns {w w2 wz : World} {g : Nat} {nv pv : Value} (h : Below w.heap.size w w2) (ht : Turns (mOwn g nv pv) w2 wz) (hg : w.heap.size ≤ g) (hn : nv.ownBlock = none) (hp : pv.ownBlock = none) : Below w.heap.size w wz :=
  h.trans (ht.below h.size (fun x hx => by simp [mOwn, hn, hp] at hx; omega))
theorem take_succ_act {acts : List (Int × List UInt8)} {k : Nat} {a : Int × List UInt8} (h : acts[k]? = some a) : acts.take (k + 1) = acts.take k ++ [a] := by
  rw [List.take_add_one, h]
  rfl
theorem chunks_snoc {l : List (Int × List UInt8)} {a : Int × List UInt8} : chunksOf (l ++ [a]) = if a.1 = 1 then chunksOf l ++ [a.2] else chunksOf l := by
  unfold chunksOf
  by_cases h : a.1 = 1 <;> simp [h]
theorem pieces_snoc {l : List (Int × List UInt8)} {a : Int × List UInt8} : piecesOf (l ++ [a]) = if a.1 = 1 then piecesOf l else piecesOf l ++ [a.2] := by
  unfold piecesOf
  by_cases h : a.1 = 1 <;> simp [h]
theorem acts_at {w : World} {base : Nat} {A : Option Addr} {n cap : Nat} {l : List (Int × List UInt8)} (h : ActsIn w base (.slice A n cap) l) {k : Nat} {a : Int × List UInt8} (ha : l[k]? = some a) : ∃ b, A = some ⟨b, 0, none⟩ ∧ b < w.heap.size ∧ w.cell? ⟨b, k * 2, none⟩ = some (.int .i64 a.1) ∧ w.cell? ⟨b, k * 2 + 1, none⟩ = some (.string ⟨a.2.toArray⟩) := by
  rcases own_shape h with ⟨hv, hn⟩ | ⟨b, cap', hv, _⟩
  · have : l = [] := List.eq_nil_of_length_eq_zero hn
    subst this
    simp at ha
  · injection hv with hA hl hc
    subst hA hl hc
    have hi : k < l.length := (List.getElem?_eq_some_iff.1 ha).1
    have key : ∀ (l : List (Int × List UInt8)) (i j : Nat) (a : Int × List UInt8), l[i]? = some a → j < 2 → (l.flatMap actCells)[i * 2 + j]? = (actCells a)[j]? := by
      intro l
      induction l with
      | nil => intro i j a h; simp at h
      | cons y l ih =>
        intro i j a h hj
        cases i with
        | zero =>
          simp at h
          subst h
          rw [List.flatMap_cons, List.getElem?_append_left (by simp [actCells]; omega)]
          simp
        | succ i =>
          simp at h
          rw [List.flatMap_cons, List.getElem?_append_right (by simp [actCells]; omega)]
          have : (i + 1) * 2 + j - (actCells y).length = i * 2 + j := by simp [actCells]; omega
          rw [this]
          exact ih i j a h hj
    exact ⟨b, rfl, (h.lt b rfl).2, (h.cellAt (k * 2) (by omega)).trans (key l k 0 a ha (by decide)), (h.cellAt (k * 2 + 1) (by omega)).trans (key l k 1 a ha (by decide))⟩

theorem Mw.grown {w w' : World} {g base size n : Nat} {t : TypeId} {cs nv pv v : Value} {m : Mach} {xs : List Value} (hM : Mw w g cs nv pv m) (h : w.ownsRow base t size v n xs) (hg : w.grownBy w' v.ownBlock) (h1 : t ≠ 61) (h2 : t ≠ 77) (h3 : t ≠ 25) (h4 : t ≠ 3) : Mw w' g cs nv pv m := by
  have key : ∀ k, v.ownBlock = some k → ∃ cur, Cells w k t cur := fun k hk => own_block_type h hk
  refine hM.turns (S := match v.ownBlock with | some k => [k] | none => []) ⟨hg.os, hg.tape, hg.output, hg.size, fun k hk hn => hg.block k hk fun e => hn (by rw [← e]; simp)⟩ ?_ ?_ ?_ ?_
  · cases hv : v.ownBlock with
    | none => simp
    | some k =>
      obtain ⟨cur, hc⟩ := key k hv
      have := block_ne hM.cells hc (Ne.symm h1)
      simpa using this
  all_goals
    intro j hj
    cases hv : v.ownBlock with
    | none => simp
    | some k =>
      obtain ⟨cur, hc⟩ := key k hv
      have := hM.other hc h1 h2 h3 h4 j (by simp [hj])
      simpa using this
theorem acts_grown {w w' : World} {base base' size n : Nat} {t : TypeId} {lv v : Value} {acts : List (Int × List UInt8)} {xs : List Value} (hA : ActsIn w base' lv acts) (h : w.ownsRow base t size v n xs) (hg : w.grownBy w' v.ownBlock) (h1 : t ≠ 56) : ActsIn w' base' lv acts := by
  refine World.ownsRow.kept hA hg ?_
  cases hl : lv.ownBlock with
  | none => exact .inl rfl
  | some k => exact .inr fun e => own_ne_own h hA h1 k k e.symm hl rfl

theorem chunk_end {w wa W4 : World} {g Bo B1 : Nat} {cs nv pv ch pi lv v' : Value} {M : Mach} {la lb : List (List UInt8)} {acts : List (Int × List UInt8)} {s : List UInt8} (hZ : Cells wa Bo 30 #[.int .i64 0, .int .u64 0, ch, pi, .int .i64 0]) (hA : TextsIn wa w.heap.size ch la) (hB : TextsIn wa w.heap.size pi lb) (hap : Apart2 ch pi) (hac : ActsIn wa w.heap.size lv acts) (hM : Mw wa g cs nv pv M) (hO : Cells wa B1 30 #[.int .i64 0, .int .u64 0, .slice none 0 0, .slice none 0 0, .int .i64 0]) (hBW : Below w.heap.size w wa) (hne : B1 ≠ Bo) (hbo : w.heap.size ≤ Bo)
    (ho : W4.ownsRow w.heap.size 9 1 v' (la.length + 1) ((la.map fun s => Value.string ⟨s.toArray⟩) ++ [.string ⟨s.toArray⟩])) (hgr : wa.grownBy W4 ch.ownBlock) (hat : v'.ownBlock = ch.ownBlock ∨ ∃ k, v'.ownBlock = some k ∧ wa.heap.size ≤ k) :
    Cells (W4.setCell ⟨Bo, 2, none⟩ v') Bo 30 #[.int .i64 0, .int .u64 0, v', pi, .int .i64 0] ∧ TextsIn (W4.setCell ⟨Bo, 2, none⟩ v') w.heap.size v' (la ++ [s]) ∧ TextsIn (W4.setCell ⟨Bo, 2, none⟩ v') w.heap.size pi lb ∧ Apart2 v' pi ∧ ActsIn (W4.setCell ⟨Bo, 2, none⟩ v') w.heap.size lv acts ∧ Mw (W4.setCell ⟨Bo, 2, none⟩ v') g cs nv pv M ∧ Cells (W4.setCell ⟨Bo, 2, none⟩ v') B1 30 #[.int .i64 0, .int .u64 0, .slice none 0 0, .slice none 0 0, .int .i64 0] ∧ Below w.heap.size w (W4.setCell ⟨Bo, 2, none⟩ v') := by
  have hZ4 := cells_grown hgr hA hZ (by decide)
  have hO4 := cells_grown hgr hA hO (by decide)
  have hM4 := hM.grown hA hgr (by decide) (by decide) (by decide) (by decide)
  have hac4 := acts_grown hac hA hgr (by decide)
  have hap' : Apart2 ch pi := hap
  have hB4 : TextsIn W4 w.heap.size pi lb := texts_other hB hgr hap'
  have hts : Turns [Bo] W4 (W4.setCell ⟨Bo, 2, none⟩ v') := (Turns.refl _ _).set (.inl (by simp)) _
  have hBW4 : Below w.heap.size w W4 := hBW.grown hgr hBW.size fun k hk => (hA.lt k hk).1
  refine ⟨hZ4.set 2 v', texts_step (row_turns ho hts fun k hk => by simpa using own_ne_block ho hZ4 (by decide) k hk), row_turns hB4 hts (fun k hk => by simpa using own_ne_block hB4 hZ4 (by decide) k hk), ?_, row_turns hac4 hts (fun k hk => by simpa using own_ne_block hac4 hZ4 (by decide) k hk), hM4.far (hM4.other hZ4 (by decide) (by decide) (by decide) (by decide)) v', hO4.far hne v', hBW4.setCell hbo v'⟩
  have hb : ∀ k, pi.ownBlock = some k → k < wa.heap.size := fun k hk => (hB.lt k hk).2
  have hfin : Apart2 v' pi := fun k hk hk2 => by
    rcases hat with h | ⟨k', hk', hl⟩
    · exact hap' k (h.symm.trans hk) hk2
    · rw [hk] at hk'
      injection hk' with hk'
      have := hb k hk2
      omega
  exact hfin

theorem piece_end {w wa W4 : World} {g Bo B1 : Nat} {cs nv pv ch pi lv v' : Value} {M : Mach} {la lb : List (List UInt8)} {acts : List (Int × List UInt8)} {s : List UInt8} (hZ : Cells wa Bo 30 #[.int .i64 0, .int .u64 0, ch, pi, .int .i64 0]) (hA : TextsIn wa w.heap.size pi la) (hB : TextsIn wa w.heap.size ch lb) (hap : Apart2 ch pi) (hac : ActsIn wa w.heap.size lv acts) (hM : Mw wa g cs nv pv M) (hO : Cells wa B1 30 #[.int .i64 0, .int .u64 0, .slice none 0 0, .slice none 0 0, .int .i64 0]) (hBW : Below w.heap.size w wa) (hne : B1 ≠ Bo) (hbo : w.heap.size ≤ Bo)
    (ho : W4.ownsRow w.heap.size 9 1 v' (la.length + 1) ((la.map fun s => Value.string ⟨s.toArray⟩) ++ [.string ⟨s.toArray⟩])) (hgr : wa.grownBy W4 pi.ownBlock) (hat : v'.ownBlock = pi.ownBlock ∨ ∃ k, v'.ownBlock = some k ∧ wa.heap.size ≤ k) :
    Cells (W4.setCell ⟨Bo, 3, none⟩ v') Bo 30 #[.int .i64 0, .int .u64 0, ch, v', .int .i64 0] ∧ TextsIn (W4.setCell ⟨Bo, 3, none⟩ v') w.heap.size v' (la ++ [s]) ∧ TextsIn (W4.setCell ⟨Bo, 3, none⟩ v') w.heap.size ch lb ∧ Apart2 ch v' ∧ ActsIn (W4.setCell ⟨Bo, 3, none⟩ v') w.heap.size lv acts ∧ Mw (W4.setCell ⟨Bo, 3, none⟩ v') g cs nv pv M ∧ Cells (W4.setCell ⟨Bo, 3, none⟩ v') B1 30 #[.int .i64 0, .int .u64 0, .slice none 0 0, .slice none 0 0, .int .i64 0] ∧ Below w.heap.size w (W4.setCell ⟨Bo, 3, none⟩ v') := by
  have hZ4 := cells_grown hgr hA hZ (by decide)
  have hO4 := cells_grown hgr hA hO (by decide)
  have hM4 := hM.grown hA hgr (by decide) (by decide) (by decide) (by decide)
  have hac4 := acts_grown hac hA hgr (by decide)
  have hap' : Apart2 pi ch := fun k h1 h2 => hap k h2 h1
  have hB4 : TextsIn W4 w.heap.size ch lb := texts_other hB hgr hap'
  have hts : Turns [Bo] W4 (W4.setCell ⟨Bo, 3, none⟩ v') := (Turns.refl _ _).set (.inl (by simp)) _
  have hBW4 : Below w.heap.size w W4 := hBW.grown hgr hBW.size fun k hk => (hA.lt k hk).1
  refine ⟨hZ4.set 3 v', texts_step (row_turns ho hts fun k hk => by simpa using own_ne_block ho hZ4 (by decide) k hk), row_turns hB4 hts (fun k hk => by simpa using own_ne_block hB4 hZ4 (by decide) k hk), ?_, row_turns hac4 hts (fun k hk => by simpa using own_ne_block hac4 hZ4 (by decide) k hk), hM4.far (hM4.other hZ4 (by decide) (by decide) (by decide) (by decide)) v', hO4.far hne v', hBW4.setCell hbo v'⟩
  have hb : ∀ k, ch.ownBlock = some k → k < wa.heap.size := fun k hk => (hB.lt k hk).2
  have hfin : Apart2 v' ch := fun k hk hk2 => by
    rcases hat with h | ⟨k', hk', hl⟩
    · exact hap' k (h.symm.trans hk) hk2
    · rw [hk] at hk'
      injection hk' with hk'
      have := hb k hk2
      omega
  exact fun k h1 h2 => hfin k h2 h1

set_option maxRecDepth 100000 in
set_option maxHeartbeats 4000000 in
theorem whole_good {fuel : Nat} {A : Option Addr} {l : List Ins} {cap : Nat} (w : World) (hC : CodeIn w w.heap.size A l) (hne : (progCheck fuel l).1 = 0) (hT : ∀ wz, Below w.heap.size w wz → TabsAt wz) :
    Calls Tryz.prog 5 #[.agg #[.int .i64 (fuel : Nat), .slice A l.length cap]] w fun e w' => ∃ ch pi, e = .returned (.tuple #[.agg #[.int .i64 (wholeM fuel l).1.rcode, .int .u64 ((wholeM fuel l).1.rbits : Nat), ch, pi, .int .i64 ((wholeM fuel l).1.done : Nat)], .int .i64 0]) ∧
      TextsIn w' w.heap.size ch (chunksOf (wholeM fuel l).2) ∧ TextsIn w' w.heap.size pi (piecesOf (wholeM fuel l).2) ∧ Apart2 ch pi ∧ Below w.heap.size w w' := by
  obtain ⟨i1, hq1, hz1, hsz1, hby1⟩ := info_str
  have kn := fun W (hW : CodeIn W W.heap.size A l) => new_good (fuel := fuel) (cap := cap) W hW hne
  have hC2 := (hC.keep (((Below.refl _ _).alloc (Nat.le_refl _) (.cells #[.int .i64 (fuel : Nat), .slice A l.length cap] 24)).alloc (by simp) (.cells #[.int .i64 0, .int .u64 0, .slice none 0 0, .slice none 0 0, .int .i64 0] 30))).more (B' := ((w.alloc (.cells #[.int .i64 (fuel : Nat), .slice A l.length cap] 24)).alloc (.cells #[.int .i64 0, .int .u64 0, .slice none 0 0, .slice none 0 0, .int .i64 0] 30)).heap.size) (by simp; omega)
  have HC2 := Lib.hid hC2
  have HB0 := Lib.hid (((Below.refl w.heap.size w).alloc (Nat.le_refl _) (.cells #[.int .i64 (fuel : Nat), .slice A l.length cap] 24)).alloc (by simp) (.cells #[.int .i64 0, .int .u64 0, .slice none 0 0, .slice none 0 0, .int .i64 0] 30))
  have HO0 := Lib.hid (Cells.newAt (w.alloc (.cells #[.int .i64 (fuel : Nat), .slice A l.length cap] 24)) 30 #[.int .i64 0, .int .u64 0, .slice none 0 0, .slice none 0 0, .int .i64 0] (w.heap.size + 1) (by simp))
  have HX0 := Lib.hid ((Cells.new w 24 #[.int .i64 (fuel : Nat), .slice A l.length cap]).alloc (.cells #[.int .i64 0, .int .u64 0, .slice none 0 0, .slice none 0 0, .int .i64 0] 30))
  have HFN := Lib.hid (fun (hk : ∀ x ∈ l, x.k < 2 * signB) => fit_new hne hk)
  have HGN := Lib.hid (goes_new hne)
  have HLK : Hid (∀ x ∈ l, x.k < 2 * signB) := Lib.hid fun x hx => by
    obtain ⟨i, hi⟩ := List.mem_iff_getElem?.1 hx
    obtain ⟨_, _, _, _, hc⟩ := hC (by have := (progCheck_ok hne).2.1; omega)
    exact (hc i x hi).2
  have HT := Lib.hid hT
  have HFU : Hid (fuel ≤ 1024) := Lib.hid (by have := (progCheck_ok hne).1; omega)
  clear hC hne hC2 hT
  unfold wholeM
  go_enter Tryz.func5, Tryz.ntmps5
  go_upto_region 5 with (go_at_call 9; with_reducible (refine (kn _ HC2.out).mono ?_); rintro _ w2 ⟨g, cs, rfl, hg2, hM2, hb2⟩; have HB2 := Lib.hid hb2; have HM2 := Lib.hid hM2; have HG2 := Lib.hid hg2; have HO2 := Lib.hid (Cells.keep HO0.out hb2); have HX2 := Lib.hid (Cells.keep HX0.out hb2); clear hb2 hM2 hg2)
  have HM3 := Lib.hid (HM2.out.alloc (.cells #[.int .i64 0, .int .u64 0, .slice none 0 0, .slice none 0 0, .int .i64 0] 30))
  have HO3 := Lib.hid (HO2.out.alloc (.cells #[.int .i64 0, .int .u64 0, .slice none 0 0, .slice none 0 0, .int .i64 0] 30))
  have HX3 := Lib.hid (HX2.out.alloc (.cells #[.int .i64 0, .int .u64 0, .slice none 0 0, .slice none 0 0, .int .i64 0] 30))
  have HZ3 := Lib.hid (Cells.new w2 30 #[.int .i64 0, .int .u64 0, .slice none 0 0, .slice none 0 0, .int .i64 0])
  have HB3 := Lib.hid ((grow_to HB0.out HB2.out).alloc (grow_to HB0.out HB2.out).size (.cells #[.int .i64 0, .int .u64 0, .slice none 0 0, .slice none 0 0, .int .i64 0] 30))
  have hg : w.heap.size ≤ g := by have h1 := HG2.out; have h2 := HB0.out.size; omega
  have hbo : w.heap.size + 1 < w2.heap.size := HO2.out.lt
  clear HM2 HO2 HX2 HB2 HG2 HC2 HO0 HX0 HB0
  generalize w2.alloc (.cells #[.int .i64 0, .int .u64 0, .slice none 0 0, .slice none 0 0, .int .i64 0] 30) = w3 at *
  generalize w2.heap.size = Bo at *
  have c0 : w3.cell? ⟨w.heap.size, 0, none⟩ = some (.int .i64 (fuel : Nat)) := HX3.out.cell (j := 0) rfl
  have kr := run_any HM3.out (HFN.out HLK.out) HGN.out (fun wz hz => HT.out wz (below_turns HB3.out hz hg rfl rfl)) (fuel : Int)
  rw [Int.toNat_natCast] at kr
  have KR := Lib.hid kr
  clear kr HFN HGN HLK
  obtain ⟨RM, hRM⟩ : ∃ RM, runM fuel (newM fuel l) = RM := ⟨_, rfl⟩
  rw [hRM] at KR
  have HRM := Lib.hid hRM
  clear hRM
  go_wp2_with (go_at_call 16; go_loud (with_reducible (refine KR.out.mono ?_)); go_loud (rintro _ w4 ⟨lv, nvf, pvf, rfl, hA4, _, _, hM4, hT4⟩); go_loud (have HA4 := Lib.hid (show ActsIn w4 w.heap.size lv RM.2 from World.ownsRow.mono hA4 HB3.out.size)); go_loud (obtain ⟨Al, capl, rfl⟩ := own_slice hA4); have HM4 := Lib.hid hM4; have HB4 := Lib.hid (below_turns HB3.out hT4 hg rfl rfl); have HO4 := Lib.hid (HO3.out.turns hT4 (mOwn_not HM3.out HO3.out (by decide) (by decide) (by decide))); have HZ4 := Lib.hid (HZ3.out.turns hT4 (mOwn_not HM3.out HZ3.out (by decide) (by decide) (by decide))); clear hA4 hM4 hT4)
  go_loopw [23] (fun x wr => ∃ (k : Nat) (ch pi : Value), k ≤ RM.2.length ∧ x = .int .i64 (k : Int) ∧ Cells wr Bo 30 #[.int .i64 0, .int .u64 0, ch, pi, .int .i64 0] ∧ TextsIn wr w.heap.size ch (chunksOf (RM.2.take k)) ∧ TextsIn wr w.heap.size pi (piecesOf (RM.2.take k)) ∧ Apart2 ch pi ∧ ActsIn wr w.heap.size (.slice Al RM.2.length capl) RM.2 ∧ Mw wr g cs nvf pvf RM.1 ∧ Cells wr (w.heap.size + 1) 30 #[.int .i64 0, .int .u64 0, .slice none 0 0, .slice none 0 0, .int .i64 0] ∧ Below w.heap.size w wr) (fun x _ => RM.2.length - (intOf x).toNat)
  case atStart => exact ⟨0, .slice none 0 0, .slice none 0 0, Nat.zero_le _, rfl, HZ4.out, World.ownsRow_nil _ _ _ _, World.ownsRow_nil _ _ _ _, (fun k h => by cases h), HA4.out, HM4.out, HO4.out, HB4.out⟩
  case round =>
    obtain ⟨k, ch, pi, hk, rfl, hZ, hch, hpi, hap, hA, hM, hO, hB⟩ := hrel
    have HZ := Lib.hid hZ
    have HCH := Lib.hid hch
    have HPI := Lib.hid hpi
    have HAP := Lib.hid hap
    have HAC := Lib.hid hA
    have HMM := Lib.hid hM
    have HOO := Lib.hid hO
    have HBB := Lib.hid hB
    have HLN := Lib.hid (acts_len fuel (newM fuel l))
    rw [HRM.out] at HLN
    obtain ⟨Ac, cc, hchv⟩ := own_slice hch
    obtain ⟨Ap, cp, hpiv⟩ := own_slice hpi
    subst hchv hpiv
    have hcl : (chunksOf (RM.2.take k)).length < 1073741824 := by
      have := HLN.out
      have h2 : (chunksOf (RM.2.take k)).length ≤ RM.2.length := by unfold chunksOf; rw [List.length_map]; exact Nat.le_trans (List.length_filter_le _ _) (by rw [List.length_take]; omega)
      have h3 := HFU.out
      omega
    have hpl : (piecesOf (RM.2.take k)).length < 1073741824 := by
      have := HLN.out
      have h2 : (piecesOf (RM.2.take k)).length ≤ RM.2.length := by unfold piecesOf; rw [List.length_map]; exact Nat.le_trans (List.length_filter_le _ _) (by rw [List.length_take]; omega)
      have h3 := HFU.out
      omega
    have z2 : wr.cell? ⟨Bo, 2, none⟩ = some (.slice Ac (chunksOf (RM.2.take k)).length cc) := hZ.cell (j := 2) rfl
    have z3 : wr.cell? ⟨Bo, 3, none⟩ = some (.slice Ap (piecesOf (RM.2.take k)).length cp) := hZ.cell (j := 3) rfl
    have zf2 := hZ.fz 2
    have zf3 := hZ.fz 3
    have hzl := hZ.lt
    clear hch hpi hap hA hM hO hB hZ
    by_cases hlt : k < RM.2.length
    · obtain ⟨a, ha⟩ : ∃ a, RM.2[k]? = some a := ⟨_, List.getElem?_eq_getElem hlt⟩
      obtain ⟨b, hAl, hb, a0, a1⟩ := acts_at HAC.out ha
      subst hAl
      have HAT := Lib.hid ha
      have HLT := Lib.hid hlt
      have hkb : k ≤ 1024 := by have h1 := HLN.out; have h2 := HFU.out; omega
      have htk := take_succ_act ha
      have HTK := Lib.hid htk
      clear ha htk
      have i0 : (0 : Int) ≤ k := by omega
      have i1' : (k : Int) < RM.2.length := by omega
      by_cases h1 : a.1 = 1
      · have t1 : (a.1 == 1) = true := by rw [beq_iff_eq]; exact h1
        have HC1 : Hid (chunksOf (RM.2.take (k + 1)) = chunksOf (RM.2.take k) ++ [a.2]) := Lib.hid (by rw [HTK.out, chunks_snoc, if_pos h1])
        have HP1 : Hid (piecesOf (RM.2.take (k + 1)) = piecesOf (RM.2.take k)) := Lib.hid (by rw [HTK.out, pieces_snoc, if_pos h1])
        clear h1
        go_wp2_with (at_builtin; refine wpList_append_elem' rfl _ _ _ rfl w.heap.size 9 i1 _ 1 16 Tryz.underlying28 hq1 hz1 hsz1 hby1 rfl (by decide) (.slice Ac (chunksOf (RM.2.take k)).length cc) (chunksOf (RM.2.take k)).length ((chunksOf (RM.2.take k)).map fun s : List UInt8 => Value.string ⟨s.toArray⟩) rfl (own_kept HCH.out ((Below.refl _ _).alloc (Nat.le_refl _) _)) #[.string ⟨a.2.toArray⟩] rfl (by simp [Value.oneCell']) _ rfl (by simp) hcl (by decide) (by have := HBB.out.size; simp; omega) ?_; intro v' W4 ho4 hgr4 hat4; have HGR4 := Lib.hid hgr4; have HO4 := Lib.hid ho4; have HAT4 := Lib.hid hat4; have HZ4 := Lib.hid (cells_grown hgr4 (own_kept HCH.out ((Below.refl _ _).alloc (Nat.le_refl _) _)) (HZ.out.alloc _) (by decide)); have y2 := HZ4.out.cell (j := 2) rfl; have yf := HZ4.out.fz 2; obtain ⟨k', cap', rfl⟩ := own_some ho4; clear ho4 hgr4 hat4)
        obtain ⟨e1, e2, e3, e4, e5, e6, e7, e8⟩ := chunk_end (w := w) (s := a.2) (HZ.out.alloc _) (own_kept HCH.out ((Below.refl _ _).alloc (Nat.le_refl _) _)) (own_kept HPI.out ((Below.refl _ _).alloc (Nat.le_refl _) _)) HAP.out (own_kept HAC.out ((Below.refl _ _).alloc (Nat.le_refl _) _)) (HMM.out.alloc _) (HOO.out.alloc _) (HBB.out.alloc HBB.out.size _) (by omega) (by omega) HO4.out HGR4.out HAT4.out
        refine ⟨⟨k + 1, (.slice (some ⟨k', 0, none⟩) ((chunksOf (RM.2.take k)).length + 1) cap'), (.slice Ap (piecesOf (RM.2.take k)).length cp), HLT.out, by go_num, e1, by rw [HC1.out]; exact e2, by rw [HP1.out]; exact e3, e4, e5, e6, e7, e8⟩, by have h := HLT.out; clear e1 e2 e3 e4 e5 e6 e7 e8; simp [intOf]; omega⟩
      · have t1 : (a.1 == 1) = false := by rw [beq_eq_false_iff_ne]; exact h1
        have HC1 : Hid (chunksOf (RM.2.take (k + 1)) = chunksOf (RM.2.take k)) := Lib.hid (by rw [HTK.out, chunks_snoc, if_neg h1])
        have HP1 : Hid (piecesOf (RM.2.take (k + 1)) = piecesOf (RM.2.take k) ++ [a.2]) := Lib.hid (by rw [HTK.out, pieces_snoc, if_neg h1])
        clear h1
        go_wp2_with (at_builtin; refine wpList_append_elem' rfl _ _ _ rfl w.heap.size 9 i1 _ 1 16 Tryz.underlying28 hq1 hz1 hsz1 hby1 rfl (by decide) (.slice Ap (piecesOf (RM.2.take k)).length cp) (piecesOf (RM.2.take k)).length ((piecesOf (RM.2.take k)).map fun s : List UInt8 => Value.string ⟨s.toArray⟩) rfl (own_kept HPI.out ((Below.refl _ _).alloc (Nat.le_refl _) _)) #[.string ⟨a.2.toArray⟩] rfl (by simp [Value.oneCell']) _ rfl (by simp) hpl (by decide) (by have := HBB.out.size; simp; omega) ?_; intro v' W4 ho4 hgr4 hat4; have HGR4 := Lib.hid hgr4; have HO4 := Lib.hid ho4; have HAT4 := Lib.hid hat4; have HZ4 := Lib.hid (cells_grown hgr4 (own_kept HPI.out ((Below.refl _ _).alloc (Nat.le_refl _) _)) (HZ.out.alloc _) (by decide)); have y2 := HZ4.out.cell (j := 3) rfl; have yf := HZ4.out.fz 3; obtain ⟨k', cap', rfl⟩ := own_some ho4; clear ho4 hgr4 hat4)
        obtain ⟨e1, e2, e3, e4, e5, e6, e7, e8⟩ := piece_end (w := w) (s := a.2) (HZ.out.alloc _) (own_kept HPI.out ((Below.refl _ _).alloc (Nat.le_refl _) _)) (own_kept HCH.out ((Below.refl _ _).alloc (Nat.le_refl _) _)) HAP.out (own_kept HAC.out ((Below.refl _ _).alloc (Nat.le_refl _) _)) (HMM.out.alloc _) (HOO.out.alloc _) (HBB.out.alloc HBB.out.size _) (by omega) (by omega) HO4.out HGR4.out HAT4.out
        refine ⟨⟨k + 1, (.slice Ac (chunksOf (RM.2.take k)).length cc), (.slice (some ⟨k', 0, none⟩) ((piecesOf (RM.2.take k)).length + 1) cap'), HLT.out, by go_num, e1, by rw [HC1.out]; exact e3, by rw [HP1.out]; exact e2, e4, e5, e6, e7, e8⟩, by have h := HLT.out; clear e1 e2 e3 e4 e5 e6 e7 e8; simp [intOf]; omega⟩
    · have i1' : ¬ (k : Int) < RM.2.length := by omega
      obtain rfl : k = RM.2.length := by omega
      have HC1 : Hid (chunksOf (RM.2.take RM.2.length) = chunksOf RM.2) := Lib.hid (by rw [List.take_length])
      have HP1 : Hid (piecesOf (RM.2.take RM.2.length) = piecesOf RM.2) := Lib.hid (by rw [List.take_length])
      go_upto_region 12 with (fail)
      have r17 : wr.cell? ⟨g, 17, none⟩ = some (.int .i64 RM.1.rcode) := HMM.out.cells.cell (j := 17) rfl
      have r18 : wr.cell? ⟨g, 18, none⟩ = some (.int .u64 (RM.1.rbits : Nat)) := HMM.out.cells.cell (j := 18) rfl
      have r3 : wr.cell? ⟨g, 3, none⟩ = some (.int .i64 (RM.1.done : Nat)) := HMM.out.cells.cell (j := 3) rfl
      have zc0 : wr.cell? ⟨Bo, 0, none⟩ = some (.int .i64 0) := HZ.out.cell (j := 0) rfl
      have zc1 : wr.cell? ⟨Bo, 1, none⟩ = some (.int .u64 0) := HZ.out.cell (j := 1) rfl
      have zc4 : wr.cell? ⟨Bo, 4, none⟩ = some (.int .i64 0) := HZ.out.cell (j := 4) rfl
      have zc0f := HZ.out.fz 0
      have zc1f := HZ.out.fz 1
      have zc4f := HZ.out.fz 4
      have hgb : g ≠ Bo := block_ne HMM.out.cells HZ.out (by decide)
      have xs : ∀ u v, ((wr.setCell ⟨Bo, 0, none⟩ u).setCell ⟨Bo, 1, none⟩ v).cell? ⟨g, 17, none⟩ = some (.int .i64 RM.1.rcode) ∧ ((wr.setCell ⟨Bo, 0, none⟩ u).setCell ⟨Bo, 1, none⟩ v).cell? ⟨g, 18, none⟩ = some (.int .u64 (RM.1.rbits : Nat)) ∧ ((wr.setCell ⟨Bo, 0, none⟩ u).setCell ⟨Bo, 1, none⟩ v).cell? ⟨g, 3, none⟩ = some (.int .i64 (RM.1.done : Nat)) := fun u v =>
        have q := fun (j : Nat) (z : Value) (h : wr.cell? ⟨g, j, none⟩ = some z) => (World.cell?_setCell_other (wr.setCell ⟨Bo, 0, none⟩ u) ⟨Bo, 1, none⟩ ⟨g, j, none⟩ v (by intro e; injection e with e; exact hgb e.symm)).trans ((World.cell?_setCell_other wr ⟨Bo, 0, none⟩ ⟨g, j, none⟩ u (by intro e; injection e with e; exact hgb e.symm)).trans h)
        ⟨q _ _ r17, q _ _ r18, q _ _ r3⟩
      have xt : ∀ u v z, (((wr.setCell ⟨Bo, 0, none⟩ u).setCell ⟨Bo, 1, none⟩ v).setCell ⟨Bo, 4, none⟩ z).cell? ⟨g, 17, none⟩ = some (.int .i64 RM.1.rcode) ∧ (((wr.setCell ⟨Bo, 0, none⟩ u).setCell ⟨Bo, 1, none⟩ v).setCell ⟨Bo, 4, none⟩ z).cell? ⟨g, 18, none⟩ = some (.int .u64 (RM.1.rbits : Nat)) ∧ (((wr.setCell ⟨Bo, 0, none⟩ u).setCell ⟨Bo, 1, none⟩ v).setCell ⟨Bo, 4, none⟩ z).cell? ⟨g, 3, none⟩ = some (.int .i64 (RM.1.done : Nat)) := fun u v z =>
        have q := fun (j : Nat) (y : Value) (h : ((wr.setCell ⟨Bo, 0, none⟩ u).setCell ⟨Bo, 1, none⟩ v).cell? ⟨g, j, none⟩ = some y) => (World.cell?_setCell_other ((wr.setCell ⟨Bo, 0, none⟩ u).setCell ⟨Bo, 1, none⟩ v) ⟨Bo, 4, none⟩ ⟨g, j, none⟩ z (by intro e; injection e with e; exact hgb e.symm)).trans h
        ⟨q _ _ (xs u v).1, q _ _ (xs u v).2.1, q _ _ (xs u v).2.2⟩
      clear z2 z3 zf2 zf3
      refine wp_region_held_drew (S := fun w' => w'.cell? ⟨g, 17, none⟩ = some (.int .i64 RM.1.rcode) ∧ w'.cell? ⟨g, 18, none⟩ = some (.int .u64 (RM.1.rbits : Nat)) ∧ w'.cell? ⟨g, 3, none⟩ = some (.int .i64 (RM.1.done : Nat))) (by kernel_rfl) ⟨r17, r18, r3⟩ (fun hS => ?_)
      refine wpAnyH_take (i := 0) (v := ?_) rfl (by kernel_rfl) (by kernel_rfl) (by kernel_rfl) (fun _ _ _ h => h) (Or.inl ⟨by rfl, ?_⟩) hS ?_
      rotate_left
      · (intro wx hSx; (try dsimp only at hSx); go_simp; (try with_reducible rfl))
      simp only [List.getElem_toArray, List.getElem_cons_zero, Act.put, List.setIfInBounds_toArray, List.set_cons_zero, List.set_cons_succ]
      refine wpAnyH_take (i := 1) (v := ?_) rfl (by kernel_rfl) (by kernel_rfl) (by kernel_rfl) (fun _ _ _ h => h) (Or.inl ⟨by rfl, ?_⟩) hS ?_
      rotate_left
      · (intro wx hSx; (try dsimp only at hSx); go_simp; (try with_reducible rfl))
      simp only [List.getElem_toArray, List.getElem_cons_succ, List.getElem_cons_zero, Act.put, List.setIfInBounds_toArray, List.set_cons_zero, List.set_cons_succ]
      refine wpAnyH_take (i := 2) (v := ?_) rfl (by kernel_rfl) (by kernel_rfl) (by kernel_rfl) (fun _ _ _ h => h) (Or.inl ⟨by rfl, ?_⟩) hS ?_
      rotate_left
      · (intro wx hSx; (try dsimp only at hSx); go_simp; (try with_reducible rfl))
      simp only [List.getElem_toArray, List.getElem_cons_succ, List.getElem_cons_zero, Act.put, List.setIfInBounds_toArray, List.set_cons_zero, List.set_cons_succ]
      refine wpAnyH_take (i := 3) (v := ?_) rfl (by kernel_rfl) (by kernel_rfl) (by kernel_rfl) (fun _ _ _ h => h) (Or.inl ⟨by rfl, ?_⟩) hS ?_
      rotate_left
      · (intro wx hSx; (try dsimp only at hSx); go_simp; (try with_reducible rfl))
      simp only [List.getElem_toArray, List.getElem_cons_succ, List.getElem_cons_zero, Act.put, List.setIfInBounds_toArray, List.set_cons_zero, List.set_cons_succ]
      refine wpAnyH_take (i := 4) (v := ?_) rfl (by kernel_rfl) (by kernel_rfl) (by kernel_rfl) (fun _ _ _ h => h) (Or.inl ⟨by rfl, ?_⟩) hS ?_
      rotate_left
      · (intro wx hSx; (try dsimp only at hSx); go_simp; (try with_reducible rfl))
      simp only [List.getElem_toArray, List.getElem_cons_succ, List.getElem_cons_zero, Act.put, List.setIfInBounds_toArray, List.set_cons_zero, List.set_cons_succ]
      refine wpAnyH_take (i := 5) (v := ?_) rfl (by kernel_rfl) (by kernel_rfl) (by kernel_rfl) (fun _ _ _ h => h) (Or.inl ⟨by rfl, ?_⟩) hS ?_
      rotate_left
      · (intro wx hSx; (try dsimp only at hSx); go_simp; (try with_reducible rfl))
      simp only [List.getElem_toArray, List.getElem_cons_succ, List.getElem_cons_zero, Act.put, List.setIfInBounds_toArray, List.set_cons_zero, List.set_cons_succ]
      refine wpAnyH_take (i := 6) (v := ?_) rfl (by kernel_rfl) (by kernel_rfl) (by kernel_rfl) (fun _ _ _ h => h) (Or.inl ⟨by rfl, ?_⟩) hS ?_
      rotate_left
      · (intro wx hSx; (try dsimp only at hSx); go_simp; (try with_reducible rfl))
      simp only [List.getElem_toArray, List.getElem_cons_succ, List.getElem_cons_zero, Act.put, List.setIfInBounds_toArray, List.set_cons_zero, List.set_cons_succ]
      refine wpAnyH_take (i := 7) (v := ?_) rfl (by kernel_rfl) (by kernel_rfl) (by kernel_rfl) (fun _ _ _ h => h) (Or.inl ⟨by rfl, ?_⟩) hS ?_
      rotate_left
      · (intro wx hSx; (try dsimp only at hSx); go_simp; (try with_reducible rfl))
      simp only [List.getElem_toArray, List.getElem_cons_succ, List.getElem_cons_zero, Act.put, List.setIfInBounds_toArray, List.set_cons_zero, List.set_cons_succ]
      refine wpAnyH_take (i := 8) (v := ?_) rfl (by kernel_rfl) (by kernel_rfl) (by kernel_rfl) (fun _ _ _ h => h) (Or.inl ⟨by rfl, ?_⟩) hS ?_
      rotate_left
      · (intro wx hSx; (try dsimp only at hSx); go_simp; (try with_reducible rfl))
      simp only [List.getElem_toArray, List.getElem_cons_succ, List.getElem_cons_zero, Act.put, List.setIfInBounds_toArray, List.set_cons_zero, List.set_cons_succ]
      refine wpAnyH_ready (rs := [9]) (by kernel_rfl) (by simp) ?_
      refine AllReadyH.cons rfl (fun K hK => ?_) AllReadyH.nil
      go_simp
      refine hK.out _ _ (by first | with_reducible exact hS | with_reducible exact xs _ _ | with_reducible exact xt _ _ _ | exact xs _ _ | exact xt _ _ _) (fun hS => ?_)
      clear hK K
      try simp only [Act.put, List.setIfInBounds_toArray, List.set_cons_zero, List.set_cons_succ]
      refine wpAnyH_take (i := 10) (v := ?_) rfl (by kernel_rfl) (by kernel_rfl) (by kernel_rfl) (fun _ _ _ h => h) (Or.inl ⟨by rfl, ?_⟩) hS ?_
      rotate_left
      · (intro wx hSx; (try dsimp only at hSx); go_simp; (try with_reducible rfl))
      simp only [List.getElem_toArray, List.getElem_cons_succ, List.getElem_cons_zero, Act.put, List.setIfInBounds_toArray, List.set_cons_zero, List.set_cons_succ]
      refine wpAnyH_ready (rs := [11]) (by kernel_rfl) (by simp) ?_
      refine AllReadyH.cons rfl (fun K hK => ?_) AllReadyH.nil
      go_simp
      refine hK.out _ _ (by first | with_reducible exact hS | with_reducible exact xs _ _ | with_reducible exact xt _ _ _ | exact xs _ _ | exact xt _ _ _) (fun hS => ?_)
      clear hK K
      try simp only [Act.put, List.setIfInBounds_toArray, List.set_cons_zero, List.set_cons_succ]
      refine wpAnyH_done (by kernel_rfl) ?_ _
      clear xs xt r17 r18 r3 zc0 zc1 zc4 zc0f zc1f zc4f hS
      try change Exit.then _ _ Exit.normal _ (((wr.setCell ⟨Bo, 0, none⟩ (.int .i64 RM.1.rcode)).setCell ⟨Bo, 1, none⟩ (.int .u64 (RM.1.rbits : Nat))).setCell ⟨Bo, 4, none⟩ (.int .i64 (RM.1.done : Nat)))
      have hts : Turns [Bo] wr (((wr.setCell ⟨Bo, 0, none⟩ (.int .i64 RM.1.rcode)).setCell ⟨Bo, 1, none⟩ (.int .u64 (RM.1.rbits : Nat))).setCell ⟨Bo, 4, none⟩ (.int .i64 (RM.1.done : Nat))) := (((Turns.refl _ _).set (.inl (by simp)) _).set (.inl (by simp)) _).set (.inl (by simp)) _
      have HZ5 := Lib.hid (((HZ.out.set 0 (.int .i64 RM.1.rcode)).set 1 (.int .u64 (RM.1.rbits : Nat))).set 4 (.int .i64 (RM.1.done : Nat)))
      have HO5 := Lib.hid (HOO.out.turns hts (by simp; omega))
      have HCH5 := Lib.hid (row_turns HCH.out hts (fun k hk => by simpa using own_ne_block HCH.out HZ.out (by decide) k hk))
      have HPI5 := Lib.hid (row_turns HPI.out hts (fun k hk => by simpa using own_ne_block HPI.out HZ.out (by decide) k hk))
      have HB5 := Lib.hid (show Below w.heap.size w _ from HBB.out.trans (hts.below HBB.out.size (fun x hx => by simp at hx; omega)))
      clear hts HZ HOO HCH HPI HBB HMM HAC HLN
      generalize (((wr.setCell ⟨Bo, 0, none⟩ (.int .i64 RM.1.rcode)).setCell ⟨Bo, 1, none⟩ (.int .u64 (RM.1.rbits : Nat))).setCell ⟨Bo, 4, none⟩ (.int .i64 (RM.1.done : Nat))) = w5 at *
      have q0 : w5.cell? ⟨Bo, 0, none⟩ = some (.int .i64 RM.1.rcode) := HZ5.out.cell (j := 0) rfl
      have q1 : w5.cell? ⟨Bo, 1, none⟩ = some (.int .u64 (RM.1.rbits : Nat)) := HZ5.out.cell (j := 1) rfl
      have q2 : w5.cell? ⟨Bo, 2, none⟩ = some (.slice Ac (chunksOf (RM.2.take RM.2.length)).length cc) := HZ5.out.cell (j := 2) rfl
      have q3 : w5.cell? ⟨Bo, 3, none⟩ = some (.slice Ap (piecesOf (RM.2.take RM.2.length)).length cp) := HZ5.out.cell (j := 3) rfl
      have q4 : w5.cell? ⟨Bo, 4, none⟩ = some (.int .i64 (RM.1.done : Nat)) := HZ5.out.cell (j := 4) rfl
      have o0 := HO5.out.cell (j := 0) rfl
      have o1 := HO5.out.cell (j := 1) rfl
      have o2 := HO5.out.cell (j := 2) rfl
      have o3 := HO5.out.cell (j := 3) rfl
      have o4 := HO5.out.cell (j := 4) rfl
      have of0 := HO5.out.fz 0
      have of1 := HO5.out.fz 1
      have of2 := HO5.out.fz 2
      have of3 := HO5.out.fz 3
      have of4 := HO5.out.fz 4
      go_wp2
      have hts : Turns [w.heap.size + 1] w5 (((((w5.setCell ⟨w.heap.size + 1, 0, none⟩ (.int .i64 RM.1.rcode)).setCell ⟨w.heap.size + 1, 1, none⟩ (.int .u64 (RM.1.rbits : Nat))).setCell ⟨w.heap.size + 1, 2, none⟩ (.slice Ac (chunksOf RM.2).length cc)).setCell ⟨w.heap.size + 1, 3, none⟩ (.slice Ap (piecesOf RM.2).length cp)).setCell ⟨w.heap.size + 1, 4, none⟩ (.int .i64 (RM.1.done : Nat))).drew := (((((( (Turns.refl _ _).set (.inl (by simp)) _).set (.inl (by simp)) _).set (.inl (by simp)) _).set (.inl (by simp)) _).set (.inl (by simp)) _)).drew
      have HTS := Lib.hid hts
      have hfin := (((((HO5.out.set 0 (.int .i64 RM.1.rcode)).set 1 (.int .u64 (RM.1.rbits : Nat))).set 2 (.slice Ac (chunksOf RM.2).length cc)).set 3 (.slice Ap (piecesOf RM.2).length cp)).set 4 (.int .i64 (RM.1.done : Nat))).drew
      clear hts o0 o1 o2 o3 o4 of0 of1 of2 of3 of4 q0 q1 q2 q3 q4
      generalize (((((w5.setCell ⟨w.heap.size + 1, 0, none⟩ (.int .i64 RM.1.rcode)).setCell ⟨w.heap.size + 1, 1, none⟩ (.int .u64 (RM.1.rbits : Nat))).setCell ⟨w.heap.size + 1, 2, none⟩ (.slice Ac (chunksOf RM.2).length cc)).setCell ⟨w.heap.size + 1, 3, none⟩ (.slice Ap (piecesOf RM.2).length cp)).setCell ⟨w.heap.size + 1, 4, none⟩ (.int .i64 (RM.1.done : Nat))).drew = w6 at *
      have p0 : w6.cell? ⟨w.heap.size + 1, 0, none⟩ = some (.int .i64 RM.1.rcode) := hfin.cell (j := 0) rfl
      have p1 : w6.cell? ⟨w.heap.size + 1, 1, none⟩ = some (.int .u64 (RM.1.rbits : Nat)) := hfin.cell (j := 1) rfl
      have p2 : w6.cell? ⟨w.heap.size + 1, 2, none⟩ = some (.slice Ac (chunksOf RM.2).length cc) := hfin.cell (j := 2) rfl
      have p3 : w6.cell? ⟨w.heap.size + 1, 3, none⟩ = some (.slice Ap (piecesOf RM.2).length cp) := hfin.cell (j := 3) rfl
      have p4 : w6.cell? ⟨w.heap.size + 1, 4, none⟩ = some (.int .i64 (RM.1.done : Nat)) := hfin.cell (j := 4) rfl
      clear hfin
      refine bodyPost_ret (v := (.tuple #[.agg #[.int .i64 RM.1.rcode, .int .u64 (RM.1.rbits : Nat), .slice Ac (chunksOf RM.2).length cc, .slice Ap (piecesOf RM.2).length cp, .int .i64 (RM.1.done : Nat)], .int .i64 0])) (by simp [results, Tryz.results5, go_sem, p0, p1, p2, p3, p4]) rfl ?_
      have hcr := row_turns HCH5.out HTS.out (fun k hk => by simpa using own_ne_block HCH5.out HO5.out (by decide) k hk)
      have hpr := row_turns HPI5.out HTS.out (fun k hk => by simpa using own_ne_block HPI5.out HO5.out (by decide) k hk)
      rw [HC1.out] at hcr
      rw [HP1.out] at hpr
      have hap := HAP.out
      rw [HC1.out, HP1.out] at hap
      refine ⟨.slice Ac (chunksOf RM.2).length cc, .slice Ap (piecesOf RM.2).length cp, by rw [HRM.out], by rw [HRM.out]; exact hcr, by rw [HRM.out]; exact hpr, hap, HB5.out.trans (HTS.out.below HB5.out.size (fun x hx => by simp at hx; omega))⟩
end Go.Proofs.YtjloiclbknfomaaGreatDoor
