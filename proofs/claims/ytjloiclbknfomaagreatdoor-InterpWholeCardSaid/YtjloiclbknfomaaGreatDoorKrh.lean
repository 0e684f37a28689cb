/- The document's Whole (contract). -/
import Derived.Test.YtjloiclbknfomaaGreatDoorKrw
import Derived.Test.YtjloiclbknfomaaGreatDoorKy
import Derived.Test.YtjloiclbknfomaaGreatDoorKne
set_option maxRecDepth 100000
namespace Go.Proofs.YtjloiclbknfomaaGreatDoor
open Go.RowKit Ieee

/-- what is there while the document drives a machine -/
structure RTell (w wr : World) (g Bo B1 : Nat) (cs nv pv ch pi : Value) (m : Mach) (lc lp : List (List UInt8)) : Prop where
  mw : Rw wr g cs nv pv m
  c : TextsIn wr w.heap.size ch lc
  p : TextsIn wr w.heap.size pi lp
  ap : Apart2 ch pi
  z : Cells wr Bo 30 #[.int .i64 0, .int .u64 0, ch, pi, .int .i64 0]
  o1 : Cells wr B1 30 #[.int .i64 0, .int .u64 0, .slice none 0 0, .slice none 0 0, .int .i64 0]
  bel : Below w.heap.size w wr
section
variable {w wr wz W4 : World} {g Bo B1 : Nat} {cs nv pv ch pi v' : Value} {m : Mach} {lc lp : List (List UInt8)} {s : List UInt8}
theorem new_apartR {base : Nat} {a b : Value} {lb : List (List UInt8)} (hb : TextsIn wr base b lb) (hap : Apart2 a b) (hat : v'.ownBlock = a.ownBlock ∨ ∃ k, v'.ownBlock = some k ∧ wr.heap.size ≤ k) : Apart2 v' b := fun k hk hk2 => by
  rcases hat with h | ⟨k', hk', hl⟩
  · exact hap k (h.symm.trans hk) hk2
  · rw [hk] at hk'
    injection hk' with hk'
    have := (hb.lt k hk2).2
    omega
theorem RTell.chunk (h : RTell w wr g Bo B1 cs nv pv ch pi m lc lp) (hbo : w.heap.size ≤ Bo) (hne : B1 ≠ Bo)
    (ho : W4.ownsRow w.heap.size 9 1 v' (lc.length + 1) ((lc.map fun s => Value.string ⟨s.toArray⟩) ++ [.string ⟨s.toArray⟩])) (hgr : wr.grownBy W4 ch.ownBlock) (hat : v'.ownBlock = ch.ownBlock ∨ ∃ k, v'.ownBlock = some k ∧ wr.heap.size ≤ k) :
    RTell w (W4.setCell ⟨Bo, 2, none⟩ v') g Bo B1 cs nv pv v' pi m (lc ++ [s]) lp := by
  have hz4 := cells_grown hgr h.c h.z (by decide)
  have ho4 := cells_grown hgr h.c h.o1 (by decide)
  have hm4 := h.mw.grown h.c hgr (by decide) (by decide) (by decide) (by decide)
  have hp4 : TextsIn W4 w.heap.size pi lp := texts_other h.p hgr h.ap
  have hts : Turns [Bo] W4 (W4.setCell ⟨Bo, 2, none⟩ v') := (Turns.refl _ _).set (.inl (by simp)) _
  have hbw : Below w.heap.size w W4 := h.bel.grown hgr h.bel.size fun k hk => (h.c.lt k hk).1
  exact ⟨hm4.far (hm4.other hz4 (by decide) (by decide) (by decide) (by decide)) v', texts_step (row_turns ho hts fun k hk => by simpa using own_ne_block ho hz4 (by decide) k hk), row_turns hp4 hts (fun k hk => by simpa using own_ne_block hp4 hz4 (by decide) k hk), new_apartR h.p h.ap hat, hz4.set 2 v', ho4.far hne v', hbw.setCell hbo v'⟩
theorem RTell.piece (h : RTell w wr g Bo B1 cs nv pv ch pi m lc lp) (hbo : w.heap.size ≤ Bo) (hne : B1 ≠ Bo)
    (ho : W4.ownsRow w.heap.size 9 1 v' (lp.length + 1) ((lp.map fun s => Value.string ⟨s.toArray⟩) ++ [.string ⟨s.toArray⟩])) (hgr : wr.grownBy W4 pi.ownBlock) (hat : v'.ownBlock = pi.ownBlock ∨ ∃ k, v'.ownBlock = some k ∧ wr.heap.size ≤ k) :
    RTell w (W4.setCell ⟨Bo, 3, none⟩ v') g Bo B1 cs nv pv ch v' m lc (lp ++ [s]) := by
  have hz4 := cells_grown hgr h.p h.z (by decide)
  have ho4 := cells_grown hgr h.p h.o1 (by decide)
  have hm4 := h.mw.grown h.p hgr (by decide) (by decide) (by decide) (by decide)
  have hap : Apart2 pi ch := fun k h1 h2 => h.ap k h2 h1
  have hp4 : TextsIn W4 w.heap.size ch lc := texts_other h.c hgr hap
  have hts : Turns [Bo] W4 (W4.setCell ⟨Bo, 3, none⟩ v') := (Turns.refl _ _).set (.inl (by simp)) _
  have hbw : Below w.heap.size w W4 := h.bel.grown hgr h.bel.size fun k hk => (h.p.lt k hk).1
  exact ⟨hm4.far (hm4.other hz4 (by decide) (by decide) (by decide) (by decide)) v', row_turns hp4 hts (fun k hk => by simpa using own_ne_block hp4 hz4 (by decide) k hk), texts_step (row_turns ho hts fun k hk => by simpa using own_ne_block ho hz4 (by decide) k hk), (fun k h1 h2 => new_apartR h.c hap hat k h2 h1), hz4.set 3 v', ho4.far hne v', hbw.setCell hbo v'⟩
theorem RTell.step {nv' pv' : Value} {m' : Mach} (h : RTell w wr g Bo B1 cs nv pv ch pi m lc lp) (hM : Rw wz g cs nv' pv' m') (ht : Turns (mOwn g nv pv) wr wz) (hg : ∀ x ∈ mOwn g nv pv, w.heap.size ≤ x) : RTell w wz g Bo B1 cs nv' pv' ch pi m' lc lp :=
  have key : ∀ {base : Nat} {v : Value} {lv : List (List UInt8)}, TextsIn wr base v lv → TextsIn wz base v lv := fun hv => row_turns hv ht fun k hk => by
    obtain ⟨cur, hcur⟩ := own_block_type hv hk
    exact rOwn_not h.mw hcur (by decide) (by decide) (by decide)
  ⟨hM, key h.c, key h.p, h.ap, h.z.turns ht (rOwn_not h.mw h.z (by decide) (by decide) (by decide)), h.o1.turns ht (rOwn_not h.mw h.o1 (by decide) (by decide) (by decide)), h.bel.trans (ht.below h.bel.size hg)⟩
end
theorem rOwn_ge {B g : Nat} {nv pv : Value} (hg : B ≤ g) (hn : ∀ k, nv.ownBlock = some k → B ≤ k) (hp : ∀ k, pv.ownBlock = some k → B ≤ k) : ∀ x, x ∈ mOwn g nv pv → B ≤ x := by
  intro x hx
  unfold mOwn at hx
  rcases List.mem_cons.1 hx with rfl | hx
  · exact hg
  rcases List.mem_append.1 hx with hx | hx
  · cases h : nv.ownBlock with
    | none => rw [h] at hx; cases hx
    | some k =>
      rw [h] at hx
      simp at hx
      exact hx ▸ hn k h
  · cases h : pv.ownBlock with
    | none => rw [h] at hx; cases hx
    | some k =>
      rw [h] at hx
      simp at hx
      exact hx ▸ hp k h
theorem ranew_ge {w : World} {nv nv' : Value} {B : Nat} (h : Anew w nv nv') (hB : B ≤ w.heap.size) (hn : ∀ k, nv.ownBlock = some k → B ≤ k) : ∀ k, nv'.ownBlock = some k → B ≤ k := by
  intro k hk
  rcases h with h | ⟨j, hj, hl⟩
  · exact hn k (h ▸ hk)
  · rw [hk] at hj
    injection hj with hj
    omega
theorem rwhole_bad {fuel : Int} {A : Option Addr} {l : List Ins} {cap : Nat} (w : World) (hC : CodeIn w w.heap.size A l) (hne : (progCheck fuel l).1 ≠ 0) :
    Calls Tryz.prog 6 #[.agg #[.int .i64 fuel, .slice A l.length cap]] w fun e w' => e = .returned (.tuple #[.agg #[.int .i64 0, .int .u64 0, .slice none 0 0, .slice none 0 0, .int .i64 0], .int .i64 (progCheck fuel l).1]) ∧ Below w.heap.size w w' := by
  have kn := fun W (hW : CodeIn W W.heap.size A l) => rnew_bad (fuel := fuel) (cap := cap) W hW hne
  have hC2 := (hC.keep (((Below.refl _ _).alloc (Nat.le_refl _) (.cells #[.int .i64 fuel, .slice A l.length cap] 24)).alloc (by simp) (.cells #[.int .i64 0, .int .u64 0, .slice none 0 0, .slice none 0 0, .int .i64 0] 30))).more (B' := ((w.alloc (.cells #[.int .i64 fuel, .slice A l.length cap] 24)).alloc (.cells #[.int .i64 0, .int .u64 0, .slice none 0 0, .slice none 0 0, .int .i64 0] 30)).heap.size) (by simp; omega)
  have HC2 := Lib.hid hC2
  have HB0 := Lib.hid (((Below.refl w.heap.size w).alloc (Nat.le_refl _) (.cells #[.int .i64 fuel, .slice A l.length cap] 24)).alloc (by simp) (.cells #[.int .i64 0, .int .u64 0, .slice none 0 0, .slice none 0 0, .int .i64 0] 30))
  have HX0 := Lib.hid (Cells.newAt (w.alloc (.cells #[.int .i64 fuel, .slice A l.length cap] 24)) 30 #[.int .i64 0, .int .u64 0, .slice none 0 0, .slice none 0 0, .int .i64 0] (w.heap.size + 1) (by simp))
  have t1 : ((progCheck fuel l).1 == 0) = false := by rw [beq_eq_false_iff_ne]; exact hne
  have t2 : ((progCheck fuel l).1 != 0) = true := by simp [bne, t1]
  clear hC hC2 hne
  generalize (progCheck fuel l).1 = p1 at *
  go_enter Tryz.func6, Tryz.ntmps6
  go_wp2_with (go_at_call 10; with_reducible (refine (kn _ HC2.out).mono ?_); rintro _ w2 ⟨rfl, hb⟩; have HB := Lib.hid (grow_to HB0.out hb); have HO := Lib.hid (HX0.out.keep hb); have o0 := HO.out.cell (j := 0) rfl; have o1 := HO.out.cell (j := 1) rfl; have o2 := HO.out.cell (j := 2) rfl; have o3 := HO.out.cell (j := 3) rfl; have o4 := HO.out.cell (j := 4) rfl; have of0 := HO.out.fz 0; have of1 := HO.out.fz 1; have of2 := HO.out.fz 2; have of3 := HO.out.fz 3; have of4 := HO.out.fz 4; clear hb)
  refine bodyPost_ret (v := .tuple #[.agg #[.int .i64 0, .int .u64 0, .slice none 0 0, .slice none 0 0, .int .i64 0], .int .i64 p1]) (by simp [results, Tryz.results6, go_sem, o0, o1, o2, o3, o4]) rfl ?_
  exact ⟨rfl, ((((HB.out.setCell (by simp) _).setCell (by simp) _).setCell (by simp) _).setCell (by simp) _).setCell (by simp) _⟩
theorem took {s : Mach × Int × List UInt8} {l : List (Int × List UInt8)} (hk : s.2.1 = 0 ∨ s.2.1 = 1 ∨ s.2.1 = 2) : chunksOf (l ++ toldOf s) = (if s.2.1 = 1 then chunksOf l ++ [s.2.2] else chunksOf l) ∧ piecesOf (l ++ toldOf s) = (if s.2.1 = 2 then piecesOf l ++ [s.2.2] else piecesOf l) := by
  unfold toldOf
  rcases hk with h | h | h
  · simp [h]
  · rw [if_neg (by omega), chunks_snoc, pieces_snoc]
    simp [h]
  · rw [if_neg (by omega), chunks_snoc, pieces_snoc]
    simp [h]
theorem kind_le (m : Mach) : (stepM m).2.1 = 0 ∨ (stepM m).2.1 = 1 ∨ (stepM m).2.1 = 2 := by
  rcases (stepM_told m).1 with h | h | h
  · exact .inl h.1
  · exact .inr (.inl h.1)
  · exact .inr (.inr h.1)
set_option maxRecDepth 100000 in
set_option maxHeartbeats 4000000 in
theorem rwhole_good {fuel : Nat} {A : Option Addr} {l : List Ins} {cap : Nat} (w : World) (hC : CodeIn w w.heap.size A l) (hne : (progCheck fuel l).1 = 0) :
    Calls Tryz.prog 6 #[.agg #[.int .i64 (fuel : Nat), .slice A l.length cap]] w fun e w' => ∃ ch pi, e = .returned (.tuple #[.agg #[.int .i64 (wholeM fuel l).1.rcode, .int .u64 ((wholeM fuel l).1.rbits : Nat), ch, pi, .int .i64 ((wholeM fuel l).1.done : Nat)], .int .i64 0]) ∧
      TextsIn w' w.heap.size ch (chunksOf (wholeM fuel l).2) ∧ TextsIn w' w.heap.size pi (piecesOf (wholeM fuel l).2) ∧ Apart2 ch pi ∧ Below w.heap.size w w' := by
  obtain ⟨i1, hq1, hz1, hsz1, hby1⟩ := info_str
  have kn := fun W (hW : CodeIn W W.heap.size A l) => rnew_good (fuel := fuel) (cap := cap) W hW hne
  have hC2 := (hC.keep (((Below.refl _ _).alloc (Nat.le_refl _) (.cells #[.int .i64 (fuel : Nat), .slice A l.length cap] 24)).alloc (by simp) (.cells #[.int .i64 0, .int .u64 0, .slice none 0 0, .slice none 0 0, .int .i64 0] 30))).more (B' := ((w.alloc (.cells #[.int .i64 (fuel : Nat), .slice A l.length cap] 24)).alloc (.cells #[.int .i64 0, .int .u64 0, .slice none 0 0, .slice none 0 0, .int .i64 0] 30)).heap.size) (by simp; omega)
  have HC2 := Lib.hid hC2
  have HB0 := Lib.hid (((Below.refl w.heap.size w).alloc (Nat.le_refl _) (.cells #[.int .i64 (fuel : Nat), .slice A l.length cap] 24)).alloc (by simp) (.cells #[.int .i64 0, .int .u64 0, .slice none 0 0, .slice none 0 0, .int .i64 0] 30))
  have HX0 := Lib.hid (Cells.newAt (w.alloc (.cells #[.int .i64 (fuel : Nat), .slice A l.length cap] 24)) 30 #[.int .i64 0, .int .u64 0, .slice none 0 0, .slice none 0 0, .int .i64 0] (w.heap.size + 1) (by simp))
  have hkk : ∀ x ∈ l, x.k < 2 * signB := fun x hx => by
    obtain ⟨i, hi⟩ := List.mem_iff_getElem?.1 hx
    obtain ⟨_, _, _, _, hc⟩ := hC (List.length_pos_of_mem hx)
    exact (hc i x hi).2
  have HKK := Lib.hid hkk
  have HNB := Lib.hid hne
  have hf := (progCheck_ok hne).1
  have HF1 := Lib.hid (show 1 ≤ fuel ∧ fuel ≤ 1024 by omega)
  clear hC hC2 hne hkk hf
  go_enter Tryz.func6, Tryz.ntmps6
  go_upto_region 5 with (go_at_call 10; with_reducible (refine (kn _ HC2.out).mono ?_); rintro _ w2 ⟨g, cs, rfl, hg, hM, hb⟩; have HB := Lib.hid (grow_to HB0.out hb); have HO := Lib.hid (HX0.out.keep hb); have HM := Lib.hid hM; have HG := Lib.hid (Nat.le_trans HB0.out.size hg); clear hb hM hg)
  have HT0 : Hid (RTell w (w2.alloc (.cells #[.int .i64 0, .int .u64 0, .slice none 0 0, .slice none 0 0, .int .i64 0] 30)) g w2.heap.size (w.heap.size + 1) cs (.slice none 0 0) (.slice none 0 0) (.slice none 0 0) (.slice none 0 0) (newM fuel l) [] []) :=
    Lib.hid ⟨HM.out.alloc _, World.ownsRow_nil _ _ _ _, World.ownsRow_nil _ _ _ _, (fun k h => by cases h), Cells.new _ _ _, HO.out.alloc _, HB.out.alloc HB.out.size _⟩
  have HBO := Lib.hid HB.out.size
  have HNE : Hid (w.heap.size + 1 ≠ w2.heap.size) := Lib.hid (Nat.ne_of_lt HO.out.lt)
  clear HM HO HB HC2 HB0 HX0 kn
  generalize w2.alloc (.cells #[.int .i64 0, .int .u64 0, .slice none 0 0, .slice none 0 0, .int .i64 0] 30) = w3 at *
  generalize w2.heap.size = Bo at *
  go_loopw [7, 8, 9] (fun x y z wr => ∃ (k : Nat) (nv pv ch pi : Value), (∀ b, nv.ownBlock = some b → w.heap.size ≤ b) ∧ (∀ b, pv.ownBlock = some b → w.heap.size ≤ b) ∧ RTell w wr g Bo (w.heap.size + 1) cs nv pv ch pi (runM k (newM fuel l)).1 (chunksOf (runM k (newM fuel l)).2) (piecesOf (runM k (newM fuel l)).2)) (fun x y z wr => fuel - (intOf ((wr.cell? ⟨g, 3, none⟩).getD undef)).toNat)
  case atStart => exact ⟨0, _, _, _, _, (fun b h => by cases h), (fun b h => by cases h), HT0.out⟩
  case round =>
    clear HT0
    obtain ⟨k, nv, pv, ch, pi, hn1, hn2, hT⟩ := hrel
    obtain ⟨Ac, cc, rfl⟩ := own_slice hT.c
    obtain ⟨Ap, cp, rfl⟩ := own_slice hT.p
    have HFIT := Lib.hid (runM_fit (P := Tryz.prog) w k (fit_new HNB.out HKK.out) (goes_new HNB.out))
    have hcn := run_counts k (newM fuel l)
    have HSM : Hid ((chunksOf (runM k (newM fuel l)).2).length < 1073741824 ∧ (piecesOf (runM k (newM fuel l)).2).length < 1073741824) := Lib.hid (by
      have h3 := HFIT.out.1.chunks
      have h4 := HFIT.out.1.pieces
      have h5 : (newM fuel l).chunks = 0 := rfl
      have h6 : (newM fuel l).pieces = 0 := rfl
      omega)
    have HSN : Hid ((runM k (newM fuel l)).1.over = false → runM (k + 1) (newM fuel l) = ((stepM (runM k (newM fuel l)).1).1, (runM k (newM fuel l)).2 ++ toldOf (stepM (runM k (newM fuel l)).1))) := Lib.hid fun h => runM_snoc h
    have HEND : Hid ((runM k (newM fuel l)).1.over = true → runM k (newM fuel l) = wholeM fuel l) := Lib.hid fun ho => run_whole (P := Tryz.prog) w HNB.out HKK.out ho
    clear hcn
    obtain ⟨Ms, hMs⟩ : ∃ Ms, runM k (newM fuel l) = Ms := ⟨_, rfl⟩
    rw [hMs] at hT HFIT HSM HSN HEND
    clear hMs
    obtain ⟨lc, hlc⟩ : ∃ lc, chunksOf Ms.2 = lc := ⟨_, rfl⟩
    obtain ⟨lp, hlp⟩ : ∃ lp, piecesOf Ms.2 = lp := ⟨_, rfl⟩
    rw [hlc, hlp] at hT HSM
    have HLL := Lib.hid (And.intro hlc hlp)
    clear hlc hlp
    have HQ0 := Lib.hid hT
    have HN := Lib.hid (And.intro hn1 hn2)
    have r16 : wr.cell? ⟨g, 16, none⟩ = some (.bool Ms.1.over) := hT.mw.cells.cell (j := 16) rfl
    have r3 : wr.cell? ⟨g, 3, none⟩ = some (.int .i64 (Ms.1.done : Nat)) := hT.mw.cells.cell (j := 3) rfl
    clear hT hn1 hn2
    cases hov : Ms.1.over
    · rw [hov] at r16
      have ks := rstep_any HQ0.out.mw HFIT.out.1 HFIT.out.2.1 hov
      have hsf := stepM_fit (P := Tryz.prog) w HFIT.out.1 HFIT.out.2.1 hov
      have HSF := Lib.hid hsf.2.2.1
      have HGO := Lib.hid (HFIT.out.2.1 hov).2
      have HFU : Hid (Ms.1.fuel = fuel) := Lib.hid HFIT.out.2.2.2
      have HNX := Lib.hid (HSN.out hov)
      have hkd := kind_le Ms.1
      obtain ⟨⟨m2, kd, tx⟩, hst⟩ : ∃ s, stepM Ms.1 = s := ⟨_, rfl⟩
      rw [hst] at ks HSF HNX hkd
      have HTK := Lib.hid (took (l := Ms.2) (s := (m2, kd, tx)) hkd)
      dsimp only at ks HSF hkd
      have HMO : Hid (∀ x ∈ mOwn g nv pv, w.heap.size ≤ x) := Lib.hid (rOwn_ge HG.out HN.out.1 HN.out.2)
      have KS := Lib.hid ks
      have R3 := Lib.hid r3
      clear ks hsf hst hov r3
      go_upto_region 7 with (go_at_call 17; go_loud (with_reducible (refine KS.out.mono ?_)); go_loud (rintro _ w5 ⟨nv5, pv5, rfl, ha1, ha2, hM5, ht5⟩); have HQ := Lib.hid (HQ0.out.step hM5 ht5 HMO.out); have HN5 := Lib.hid (And.intro (ranew_ge ha1 HQ0.out.bel.size HN.out.1) (ranew_ge ha2 HQ0.out.bel.size HN.out.2)); clear ha1 ha2 hM5 ht5)
      have z2 : w5.cell? ⟨Bo, 2, none⟩ = some (.slice Ac lc.length cc) := HQ.out.z.cell (j := 2) rfl
      have z3 : w5.cell? ⟨Bo, 3, none⟩ = some (.slice Ap lp.length cp) := HQ.out.z.cell (j := 3) rfl
      unfold bstr
      rcases hkd with rfl | rfl | rfl
      · go_wp2
        have hr3 := HQ.out.mw.cells.cell (j := 3) (v := .int .i64 (m2.done : Nat)) rfl
        refine ⟨⟨k + 1, nv5, pv5, _, _, HN5.out.1, HN5.out.2, by rw [HNX.out, HTK.out.1, HTK.out.2, HLL.out.1, HLL.out.2]; exact HQ.out⟩, ?_⟩
        rw [R3.out, hr3]
        have h1 := HSF.out
        have h2 := HGO.out
        have h3 := HFU.out
        simp [intOf]
        omega
      · go_wp2_with (at_builtin; refine wpList_append_elem' rfl _ _ _ rfl w.heap.size 9 i1 _ 1 16 Tryz.underlying28 hq1 hz1 hsz1 hby1 rfl (by decide) (.slice Ac lc.length cc) lc.length (lc.map fun s : List UInt8 => Value.string ⟨s.toArray⟩) rfl HQ.out.c #[.string ⟨tx.toArray⟩] rfl (by simp [Value.oneCell']) _ rfl (by simp) HSM.out.1 (by decide) (by have := HQ.out.bel.size; simp; omega) ?_; intro v' W4 ho4 hgr4 hat4; have y2 : W4.cell? ⟨Bo, 2, none⟩ = some (.slice Ac lc.length cc) := (cells_grown hgr4 HQ.out.c HQ.out.z (by decide)).cell (j := 2) rfl; have yf := (cells_grown hgr4 HQ.out.c HQ.out.z (by decide)).fz 2; have HQ4 := Lib.hid (HQ.out.chunk HBO.out HNE.out ho4 hgr4 hat4); obtain ⟨k', cap', rfl⟩ := own_some ho4; clear ho4 hgr4 hat4)
        have hr3 := HQ4.out.mw.cells.cell (j := 3) (v := .int .i64 (m2.done : Nat)) rfl
        refine ⟨⟨k + 1, nv5, pv5, _, _, HN5.out.1, HN5.out.2, by rw [HNX.out, HTK.out.1, HTK.out.2, HLL.out.1, HLL.out.2]; exact HQ4.out⟩, ?_⟩
        rw [R3.out, hr3]
        have h1 := HSF.out
        have h2 := HGO.out
        have h3 := HFU.out
        simp [intOf]
        omega
      · go_wp2_with (at_builtin; refine wpList_append_elem' rfl _ _ _ rfl w.heap.size 9 i1 _ 1 16 Tryz.underlying28 hq1 hz1 hsz1 hby1 rfl (by decide) (.slice Ap lp.length cp) lp.length (lp.map fun s : List UInt8 => Value.string ⟨s.toArray⟩) rfl HQ.out.p #[.string ⟨tx.toArray⟩] rfl (by simp [Value.oneCell']) _ rfl (by simp) HSM.out.2 (by decide) (by have := HQ.out.bel.size; simp; omega) ?_; intro v' W4 ho4 hgr4 hat4; have y2 : W4.cell? ⟨Bo, 3, none⟩ = some (.slice Ap lp.length cp) := (cells_grown hgr4 HQ.out.p HQ.out.z (by decide)).cell (j := 3) rfl; have yf := (cells_grown hgr4 HQ.out.p HQ.out.z (by decide)).fz 3; have HQ4 := Lib.hid (HQ.out.piece HBO.out HNE.out ho4 hgr4 hat4); obtain ⟨k', cap', rfl⟩ := own_some ho4; clear ho4 hgr4 hat4)
        have hr3 := HQ4.out.mw.cells.cell (j := 3) (v := .int .i64 (m2.done : Nat)) rfl
        refine ⟨⟨k + 1, nv5, pv5, _, _, HN5.out.1, HN5.out.2, by rw [HNX.out, HTK.out.1, HTK.out.2, HLL.out.1, HLL.out.2]; exact HQ4.out⟩, ?_⟩
        rw [R3.out, hr3]
        have h1 := HSF.out
        have h2 := HGO.out
        have h3 := HFU.out
        simp [intOf]
        omega
    · rw [hov] at r16
      have hw := HEND.out hov
      have HW := Lib.hid hw
      have r17 : wr.cell? ⟨g, 17, none⟩ = some (.int .i64 Ms.1.rcode) := HQ0.out.mw.cells.cell (j := 17) rfl
      have r18 : wr.cell? ⟨g, 18, none⟩ = some (.int .u64 (Ms.1.rbits : Nat)) := HQ0.out.mw.cells.cell (j := 18) rfl
      have zc0 : wr.cell? ⟨Bo, 0, none⟩ = some (.int .i64 0) := HQ0.out.z.cell (j := 0) rfl
      have zc1 : wr.cell? ⟨Bo, 1, none⟩ = some (.int .u64 0) := HQ0.out.z.cell (j := 1) rfl
      have zc4 : wr.cell? ⟨Bo, 4, none⟩ = some (.int .i64 0) := HQ0.out.z.cell (j := 4) rfl
      have zc0f := HQ0.out.z.fz 0
      have zc1f := HQ0.out.z.fz 1
      have zc4f := HQ0.out.z.fz 4
      have hgb : g ≠ Bo := block_ne HQ0.out.mw.cells HQ0.out.z (by decide)
      have r3s : ∀ u v, ((wr.setCell ⟨Bo, 0, none⟩ u).setCell ⟨Bo, 1, none⟩ v).cell? ⟨g, 3, none⟩ = some (.int .i64 (Ms.1.done : Nat)) := fun u v => (World.cell?_setCell_other (wr.setCell ⟨Bo, 0, none⟩ u) ⟨Bo, 1, none⟩ ⟨g, 3, none⟩ v (by intro e; injection e with e; exact hgb e.symm)).trans ((World.cell?_setCell_other wr ⟨Bo, 0, none⟩ ⟨g, 3, none⟩ u (by intro e; injection e with e; exact hgb e.symm)).trans r3)
      clear hw hov
      go_upto_region 13 with fail
      have hts : Turns [Bo] wr (((wr.setCell ⟨Bo, 0, none⟩ (.int .i64 Ms.1.rcode)).setCell ⟨Bo, 1, none⟩ (.int .u64 (Ms.1.rbits : Nat))).setCell ⟨Bo, 4, none⟩ (.int .i64 (Ms.1.done : Nat))) := (((Turns.refl _ _).set (.inl (by simp)) _).set (.inl (by simp)) _).set (.inl (by simp)) _
      have HZ5 := Lib.hid (((HQ0.out.z.set 0 (.int .i64 Ms.1.rcode)).set 1 (.int .u64 (Ms.1.rbits : Nat))).set 4 (.int .i64 (Ms.1.done : Nat)))
      have HO5 := Lib.hid (HQ0.out.o1.turns hts (by simpa using HNE.out))
      have HCH5 := Lib.hid (row_turns HQ0.out.c hts (fun k hk => by simpa using own_ne_block HQ0.out.c HQ0.out.z (by decide) k hk))
      have HPI5 := Lib.hid (row_turns HQ0.out.p hts (fun k hk => by simpa using own_ne_block HQ0.out.p HQ0.out.z (by decide) k hk))
      have HB5 := Lib.hid (show Below w.heap.size w _ from HQ0.out.bel.trans (hts.below HQ0.out.bel.size (fun x hx => by simp at hx; have := HBO.out; omega)))
      have HAP := Lib.hid HQ0.out.ap
      clear hts HQ0 r16 r17 r18 r3 r3s zc0 zc1 zc4 zc0f zc1f zc4f
      generalize (((wr.setCell ⟨Bo, 0, none⟩ (.int .i64 Ms.1.rcode)).setCell ⟨Bo, 1, none⟩ (.int .u64 (Ms.1.rbits : Nat))).setCell ⟨Bo, 4, none⟩ (.int .i64 (Ms.1.done : Nat))) = w5 at *
      have q0 : w5.cell? ⟨Bo, 0, none⟩ = some (.int .i64 Ms.1.rcode) := HZ5.out.cell (j := 0) rfl
      have q1 : w5.cell? ⟨Bo, 1, none⟩ = some (.int .u64 (Ms.1.rbits : Nat)) := HZ5.out.cell (j := 1) rfl
      have q2 : w5.cell? ⟨Bo, 2, none⟩ = some (.slice Ac lc.length cc) := HZ5.out.cell (j := 2) rfl
      have q3 : w5.cell? ⟨Bo, 3, none⟩ = some (.slice Ap lp.length cp) := HZ5.out.cell (j := 3) rfl
      have q4 : w5.cell? ⟨Bo, 4, none⟩ = some (.int .i64 (Ms.1.done : Nat)) := HZ5.out.cell (j := 4) rfl
      have o0 := HO5.out.cell (j := 0) rfl
      have o1 := HO5.out.cell (j := 1) rfl
      have o2 := HO5.out.cell (j := 2) rfl
      have o3 := HO5.out.cell (j := 3) rfl
      have o4 := HO5.out.cell (j := 4) rfl
      have of0 := HO5.out.fz 0
      have of1 := HO5.out.fz 1
      have of2 := HO5.out.fz 2
      have of3 := HO5.out.fz 3
      have of4 := HO5.out.fz 4
      go_wp2
      have hts : Turns [w.heap.size + 1] w5 (((((w5.setCell ⟨w.heap.size + 1, 0, none⟩ (.int .i64 Ms.1.rcode)).setCell ⟨w.heap.size + 1, 1, none⟩ (.int .u64 (Ms.1.rbits : Nat))).setCell ⟨w.heap.size + 1, 2, none⟩ (.slice Ac lc.length cc)).setCell ⟨w.heap.size + 1, 3, none⟩ (.slice Ap lp.length cp)).setCell ⟨w.heap.size + 1, 4, none⟩ (.int .i64 (Ms.1.done : Nat))) := ((((((Turns.refl _ _).set (.inl (by simp)) _).set (.inl (by simp)) _).set (.inl (by simp)) _).set (.inl (by simp)) _).set (.inl (by simp)) _)
      have HTS := Lib.hid hts
      have hfin := ((((HO5.out.set 0 (.int .i64 Ms.1.rcode)).set 1 (.int .u64 (Ms.1.rbits : Nat))).set 2 (.slice Ac lc.length cc)).set 3 (.slice Ap lp.length cp)).set 4 (.int .i64 (Ms.1.done : Nat))
      clear hts o0 o1 o2 o3 o4 of0 of1 of2 of3 of4 q0 q1 q2 q3 q4
      generalize (((((w5.setCell ⟨w.heap.size + 1, 0, none⟩ (.int .i64 Ms.1.rcode)).setCell ⟨w.heap.size + 1, 1, none⟩ (.int .u64 (Ms.1.rbits : Nat))).setCell ⟨w.heap.size + 1, 2, none⟩ (.slice Ac lc.length cc)).setCell ⟨w.heap.size + 1, 3, none⟩ (.slice Ap lp.length cp)).setCell ⟨w.heap.size + 1, 4, none⟩ (.int .i64 (Ms.1.done : Nat))) = w6 at *
      have p0 : w6.cell? ⟨w.heap.size + 1, 0, none⟩ = some (.int .i64 Ms.1.rcode) := hfin.cell (j := 0) rfl
      have p1 : w6.cell? ⟨w.heap.size + 1, 1, none⟩ = some (.int .u64 (Ms.1.rbits : Nat)) := hfin.cell (j := 1) rfl
      have p2 : w6.cell? ⟨w.heap.size + 1, 2, none⟩ = some (.slice Ac lc.length cc) := hfin.cell (j := 2) rfl
      have p3 : w6.cell? ⟨w.heap.size + 1, 3, none⟩ = some (.slice Ap lp.length cp) := hfin.cell (j := 3) rfl
      have p4 : w6.cell? ⟨w.heap.size + 1, 4, none⟩ = some (.int .i64 (Ms.1.done : Nat)) := hfin.cell (j := 4) rfl
      clear hfin
      refine bodyPost_ret (v := (.tuple #[.agg #[.int .i64 Ms.1.rcode, .int .u64 (Ms.1.rbits : Nat), .slice Ac lc.length cc, .slice Ap lp.length cp, .int .i64 (Ms.1.done : Nat)], .int .i64 0])) (by simp [results, Tryz.results6, go_sem, p0, p1, p2, p3, p4]) rfl ?_
      have hcr := row_turns HCH5.out HTS.out (fun k hk => by simpa using own_ne_block HCH5.out HO5.out (by decide) k hk)
      have hpr := row_turns HPI5.out HTS.out (fun k hk => by simpa using own_ne_block HPI5.out HO5.out (by decide) k hk)
      refine ⟨.slice Ac lc.length cc, .slice Ap lp.length cp, by rw [← HW.out], by rw [← HW.out, HLL.out.1]; exact hcr, by rw [← HW.out, HLL.out.2]; exact hpr, HAP.out, HB5.out.trans (HTS.out.below HB5.out.size (fun x hx => by simp at hx; omega))⟩
end Go.Proofs.YtjloiclbknfomaaGreatDoor
