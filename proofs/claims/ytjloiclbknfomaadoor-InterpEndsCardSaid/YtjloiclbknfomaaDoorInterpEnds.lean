/- InterpEnds: every machine ends within its fuel, however it is driven, and tells what Whole tells: as a row and as a card. -/
import Derived.Test.YtjloiclbknfomaaDoorKv
import Derived.Test.YtjloiclbknfomaaDoorKh
import Derived.Test.YtjloiclbknfomaaDoorKne
import Derived.Test.YtjloiclbknfomaaDoorKbw
import Derived.Test.YtjloiclbknfomaaDoorKo
import Derived.ChangeSlices
set_option maxRecDepth 100000
namespace Go.Proofs.YtjloiclbknfomaaDoor.interpEnds
open Go.RowKit Go.WideShapes Go.ChangeShapes Go.ChangeAt Go.Deep Ieee

def intCell (l : List Int) (j : Nat) : Value := .int .i64 (l.getD j 0)
theorem open_rowsI {H : Type} {enc : TypeId × Value → H} {W : World} {base : Nat} {v : Value} {d : DataW H} {ps : List MemPlace} (hv : Value.okWide Tryd.prog W .any base 25 v) (h : DataW.Trod enc Tryd.prog W 0 (fun _ => true) true 25 v d ps) :
    ∃ (A : Option Addr) (n c : Nat) (l : List Int), v = .slice A n c ∧ Sl W W.heap.size 1 A n (intCell l) ∧ l.length = n ∧ ∀ x ∈ l, (Lit.int .i64 x).wf = true := by
  obtain ⟨a0, len, cap, rfl⟩ := okWide_slice Tryd.underlying25 hv
  obtain ⟨fuel, hf⟩ := h
  rcases open_ints Tryd.underlying25 Tryd.underlying3 (by kernel_rfl) hf with ⟨hcs, hx⟩ | ⟨a, len', cap', zs, hcs, hb, hl, hm, hzl, hx, hcell, hwf⟩
  · simp [Value.cells] at hcs
    obtain ⟨rfl, rfl, rfl⟩ := hcs
    exact ⟨none, 0, 0, [], rfl, fun h => absurd h (by omega), rfl, fun x hx => by simp at hx⟩
  · simp [Value.cells] at hcs
    obtain ⟨rfl, rfl, rfl⟩ := hcs
    have hlm : len ≤ zs.length := by rw [hzl]; split <;> omega
    refine ⟨some a, len, cap, zs.take len, rfl, fun hn => ?_, by simp [hlm], fun x hx => hwf x (List.mem_of_mem_take hx)⟩
    have h0 := hcell 0 (by omega)
    rw [show a.add 0 = a from rfl] at h0
    have ha := addr_plain h0
    refine ⟨a.block, a.off, by rw [← ha], World.block_lt_of_cell? W a h0, fun j hj => ?_⟩
    have q := hcell j (by omega)
    rw [ha, add_plain] at q
    rw [q]
    unfold intCell
    congr 2
    simp only [List.getD_eq_getElem?_getD]
    rw [List.getElem?_take_of_lt (by omega)]

/-- what is there while a machine is driven -/
structure Tell (w wr : World) (g Bo : Nat) (cs nv pv ch pi A P : Value) (m : Mach) (lc lp oc op : List (List UInt8)) (PV O1 : Array Value) : Prop where
  mw : Mw wr g cs nv pv m
  c : TextsIn wr (Bo + 1) ch lc
  p : TextsIn wr (Bo + 1) pi lp
  ap : Apart2 ch pi
  oc : TextsIn wr w.heap.size A oc
  op : TextsIn wr w.heap.size P op
  pr : Cells wr w.heap.size 24 PV
  ot : Cells wr Bo 35 O1
  bel : Below w.heap.size w wr
section
variable {w wr wz W4 : World} {g Bo : Nat} {cs nv pv ch pi A P v' : Value} {m : Mach} {lc lp oc op : List (List UInt8)} {PV O1 : Array Value} {s : List UInt8}
theorem Tell.keep (h : Tell w wr g Bo cs nv pv ch pi A P m lc lp oc op PV O1) (hb : Below wr.heap.size wr wz) : Tell w wz g Bo cs nv pv ch pi A P m lc lp oc op PV O1 :=
  ⟨h.mw.keep hb, own_kept h.c hb, own_kept h.p hb, h.ap, own_kept h.oc hb, own_kept h.op hb, h.pr.keep hb, h.ot.keep hb, h.bel.trans (hb.mono h.bel.size)⟩
theorem texts_far {base base' : Nat} {a b : Value} {la lb : List (List UInt8)} (ha : TextsIn wr base a la) (hb : TextsIn wr base' b lb) (hk : ∀ k, b.ownBlock = some k → k < base) : Apart2 a b := fun k h1 h2 => by
  have := (ha.lt k h1).1
  have := hk k h2
  omega
theorem new_apart {base base' : Nat} {a b : Value} {lb : List (List UInt8)} (hb : TextsIn wr base b lb) (hap : Apart2 a b) (hat : v'.ownBlock = a.ownBlock ∨ ∃ k, v'.ownBlock = some k ∧ wr.heap.size ≤ k) : Apart2 v' b := fun k hk hk2 => by
  rcases hat with h | ⟨k', hk', hl⟩
  · exact hap k (h.symm.trans hk) hk2
  · rw [hk] at hk'
    injection hk' with hk'
    have := (hb.lt k hk2).2
    omega
theorem Tell.chunk (h : Tell w wr g Bo cs nv pv ch pi A P m lc lp oc op PV O1) (hA : ∀ k, A.ownBlock = some k → k < Bo + 1) (hP : ∀ k, P.ownBlock = some k → k < Bo + 1) (hbo : w.heap.size ≤ Bo)
    (ho : W4.ownsRow (Bo + 1) 9 1 v' (lc.length + 1) ((lc.map fun s => Value.string ⟨s.toArray⟩) ++ [.string ⟨s.toArray⟩])) (hgr : wr.grownBy W4 ch.ownBlock) (hat : v'.ownBlock = ch.ownBlock ∨ ∃ k, v'.ownBlock = some k ∧ wr.heap.size ≤ k) :
    Tell w W4 g Bo cs nv pv v' pi A P m (lc ++ [s]) lp oc op PV O1 :=
  ⟨h.mw.grown h.c hgr (by decide) (by decide) (by decide) (by decide), texts_step ho, texts_other h.p hgr h.ap, new_apart (base' := 0) h.p h.ap hat, texts_other h.oc hgr (texts_far h.c h.oc hA), texts_other h.op hgr (texts_far h.c h.op hP), cells_grown hgr h.c h.pr (by decide), cells_grown hgr h.c h.ot (by decide), h.bel.grown hgr h.bel.size fun k hk => by have := (h.c.lt k hk).1; omega⟩
theorem Tell.piece (h : Tell w wr g Bo cs nv pv ch pi A P m lc lp oc op PV O1) (hA : ∀ k, A.ownBlock = some k → k < Bo + 1) (hP : ∀ k, P.ownBlock = some k → k < Bo + 1) (hbo : w.heap.size ≤ Bo)
    (ho : W4.ownsRow (Bo + 1) 9 1 v' (lp.length + 1) ((lp.map fun s => Value.string ⟨s.toArray⟩) ++ [.string ⟨s.toArray⟩])) (hgr : wr.grownBy W4 pi.ownBlock) (hat : v'.ownBlock = pi.ownBlock ∨ ∃ k, v'.ownBlock = some k ∧ wr.heap.size ≤ k) :
    Tell w W4 g Bo cs nv pv ch v' A P m lc (lp ++ [s]) oc op PV O1 :=
  have hap : Apart2 pi ch := fun k h1 h2 => h.ap k h2 h1
  ⟨h.mw.grown h.p hgr (by decide) (by decide) (by decide) (by decide), texts_other h.c hgr hap, texts_step ho, (fun k h1 h2 => new_apart (base' := 0) h.c hap hat k h2 h1), texts_other h.oc hgr (texts_far h.p h.oc hA), texts_other h.op hgr (texts_far h.p h.op hP), cells_grown hgr h.p h.pr (by decide), cells_grown hgr h.p h.ot (by decide), h.bel.grown hgr h.bel.size fun k hk => by have := (h.p.lt k hk).1; omega⟩
theorem Tell.run {nv' pv' : Value} {m' : Mach} (h : Tell w wr g Bo cs nv pv ch pi A P m lc lp oc op PV O1) (hM : Mw wz g cs nv' pv' m') (ht : Turns (mOwn g nv pv) wr wz) (hg : ∀ x ∈ mOwn g nv pv, w.heap.size ≤ x) :
    Tell w wz g Bo cs nv' pv' ch pi A P m' lc lp oc op PV O1 :=
  have key : ∀ {base : Nat} {v : Value} {lv : List (List UInt8)}, TextsIn wr base v lv → TextsIn wz base v lv := fun hv => row_turns hv ht fun k hk => by
    obtain ⟨cur, hcur⟩ := own_block_type hv hk
    exact mOwn_not h.mw hcur (by decide) (by decide) (by decide)
  ⟨hM, key h.c, key h.p, h.ap, key h.oc, key h.op, h.pr.turns ht (mOwn_not h.mw h.pr (by decide) (by decide) (by decide)), h.ot.turns ht (mOwn_not h.mw h.ot (by decide) (by decide) (by decide)), h.bel.trans (ht.below h.bel.size hg)⟩
end
theorem acts_count (l : List (Int × List UInt8)) : (chunksOf l).length + (piecesOf l).length = l.length := by
  induction l with
  | nil => rfl
  | cons a l ih =>
    unfold chunksOf piecesOf at ih ⊢
    by_cases h : a.1 = 1 <;> simp [h] at ih ⊢ <;> omega
theorem acts_cell {w : World} {base b n cap : Nat} {l : List (Int × List UInt8)} (h : ActsIn w base (.slice (some ⟨b, 0, none⟩) n cap) l) {k : Nat} {a : Int × List UInt8} (ha : l[k]? = some a) : w.cell? ⟨b, k * 2 + 1, none⟩ = some (.string ⟨a.2.toArray⟩) := by
  obtain ⟨b', e, _, _, h1⟩ := acts_at h ha
  injection e with e
  injection e with e
  rw [e]
  exact h1
theorem own_empty {w : World} {base k : Nat} {t : TypeId} (h : Cells w k t #[]) (hb : base ≤ k) : w.ownsRow base t 1 (.slice (some ⟨k, 0, none⟩) 0 0) 0 [] :=
  ⟨rfl, .inr ⟨k, 0, #[], rfl, hb, h, Nat.le_refl _, by decide, rfl, rfl⟩⟩
theorem meas_dec {D k : Nat} (h : k < D) (hD : D ≤ 2048) : D - (intOf (.int .i64 (wrap64 ((k : Int) + 1)))).toNat < D - (intOf (.int .i64 (k : Int))).toNat ∧ D - (intOf (.int .i64 ((k : Int) + 1))).toNat < D - (intOf (.int .i64 (k : Int))).toNat := by
  have e : wrap64 ((k : Int) + 1) = (k : Int) + 1 := by unfold wrap64; omega
  rw [e]
  constructor
  all_goals
    simp [intOf]; omega
theorem mOwn_ge {B g : Nat} {nv pv : Value} (hg : B ≤ g) (hn : ∀ k, nv.ownBlock = some k → B ≤ k) (hp : ∀ k, pv.ownBlock = some k → B ≤ k) : ∀ x, x ∈ mOwn g nv pv → B ≤ x := by
  intro x hx
  unfold mOwn at hx
  rcases List.mem_cons.1 hx with rfl | hx
  · exact hg
  rcases List.mem_append.1 hx with hx | hx
  · cases h : nv.ownBlock with
    | none => rw [h] at hx; cases hx
    | some k =>
      rw [h] at hx
      simp at hx
      exact hx ▸ hn k h
  · cases h : pv.ownBlock with
    | none => rw [h] at hx; cases hx
    | some k =>
      rw [h] at hx
      simp at hx
      exact hx ▸ hp k h
theorem anew_ge {w : World} {nv nv' : Value} {B : Nat} (h : Anew w nv nv') (hB : B ≤ w.heap.size) (hn : ∀ k, nv.ownBlock = some k → B ≤ k) : ∀ k, nv'.ownBlock = some k → B ≤ k := by
  intro k hk
  rcases h with h | ⟨j, hj, hl⟩
  · exact hn k (h ▸ hk)
  · rw [hk] at hj
    injection hj with hj
    omega
theorem few {P : Program} (w : World) {f : Nat} {l : List Ins} (hc : (progCheck f l).1 = 0) (hk : ∀ x ∈ l, x.k < 2 * signB) (n : Nat) : (chunksOf (runM n (newM f l)).2).length ≤ 32 ∧ (piecesOf (runM n (newM f l)).2).length ≤ 16 := by
  obtain ⟨h1, h2, _⟩ := run_counts n (newM f l)
  have hF := (runM_fit (P := P) w n (fit_new hc hk) (goes_new hc)).1
  have h3 := hF.chunks
  have h4 := hF.pieces
  have h5 : (newM f l).chunks = 0 := rfl
  have h6 : (newM f l).pieces = 0 := rfl
  omega

set_option maxHeartbeats 4000000 in
set_option maxRecDepth 100000 in
theorem walk_bad {fuel : Int} {A : Option Addr} {l : List Ins} {cap : Nat} {rv : Value} (w : World) (hC : CodeIn w w.heap.size A l) (hT : ∀ wz, Below w.heap.size w wz → TabsAt wz) (hne : (progCheck fuel l).1 ≠ 0) :
    Calls Tryd.prog 3 #[.agg #[.int .i64 fuel, .slice A l.length cap], rv] w fun e w' => e = .returned (.bool true) ∧ Below w.heap.size w w' := by
  have HB1 := Lib.hid ((Below.refl w.heap.size w).alloc (Nat.le_refl _) (.cells #[.int .i64 fuel, .slice A l.length cap] 24))
  have HP1 := Lib.hid (Cells.new w 24 #[.int .i64 fuel, .slice A l.length cap])
  have KN := Lib.hid (fun W (hW : Below w.heap.size w W) => new_bad (fuel := fuel) (cap := cap) W ((hC.keep hW).more hW.size) hne)
  have KW := Lib.hid (fun W (hW : Below w.heap.size w W) => whole_bad (fuel := fuel) (cap := cap) W ((hC.keep hW).more hW.size) hne)
  have KA := Lib.hid (fun W (hW : Below w.heap.size w W) => awake_any W (tabs_later hT hW))
  have t1 : ((progCheck fuel l).1 == 0) = false := by rw [beq_eq_false_iff_ne]; exact hne
  have t2 : ((progCheck fuel l).1 != 0) = true := by simp [bne, t1]
  have t3 : ((progCheck fuel l).1 != (progCheck fuel l).1) = false := by simp
  clear hC hT hne
  generalize (progCheck fuel l).1 = pe at *
  go_enter Tryd.func3, Tryd.ntmps3
  go_wp2_with (first | (go_at_call 7; go_loud (refine (KN.out _ HB1.out).mono ?_); rintro _ w1 ⟨rfl, hb1⟩; have HBn := Lib.hid (grow_to HB1.out hb1); have p0 := (Cells.keep HP1.out hb1).cell (j := 0) rfl; have p1 := (Cells.keep HP1.out hb1).cell (j := 1) rfl; clear hb1) | (go_at_call 8; go_loud (refine (KW.out _ HBn.out).mono ?_); rintro _ w2 ⟨rfl, hb2⟩; have HB2 := Lib.hid ((grow_to HBn.out hb2).alloc (grow_to HBn.out hb2).size (.cells #[.int .i64 0, .int .u64 0, .slice none 0 0, .slice none 0 0, .int .i64 0] 35)); clear hb2) | (go_at_call 9; go_loud (refine (KA.out _ HB2.out).mono ?_); rintro _ w3 ⟨rfl, hb3⟩; have HB3 := Lib.hid (grow_to HB2.out hb3); clear hb3))
  go_ret
  exact ⟨by first | rfl | simp, HB3.out⟩

set_option maxHeartbeats 16000000 in
set_option maxRecDepth 100000 in
theorem walk_good {f : Nat} {A Ar : Option Addr} {l : List Ins} {rl : List Int} {cap rn rc : Nat} (w : World) (hC : CodeIn w w.heap.size A l) (hR : Sl w w.heap.size 1 Ar rn (intCell rl)) (hrw : ∀ x ∈ rl, (Lit.int .i64 x).wf = true) (hrl : rl.length = rn) (hT : ∀ wz, Below w.heap.size w wz → TabsAt wz) (hok : (progCheck f l).1 = 0) :
    Calls Tryd.prog 3 #[.agg #[.int .i64 (f : Nat), .slice A l.length cap], .slice Ar rn rc] w fun e w' => e = .returned (.bool true) ∧ Below w.heap.size w w' := by
  have HB1 := Lib.hid ((Below.refl w.heap.size w).alloc (Nat.le_refl _) (.cells #[.int .i64 (f : Nat), .slice A l.length cap] 24))
  have HP1 := Lib.hid (Cells.new w 24 #[.int .i64 (f : Nat), .slice A l.length cap])
  have KN := Lib.hid (fun W (hW : Below w.heap.size w W) => new_good (fuel := f) (cap := cap) W ((hC.keep hW).more hW.size) hok)
  have KW := Lib.hid (fun W (hW : Below w.heap.size w W) => whole_good (fuel := f) (cap := cap) W ((hC.keep hW).more hW.size) hok (tabs_later hT hW))
  have KA := Lib.hid (fun W (hW : Below w.heap.size w W) => awake_any W (tabs_later hT hW))
  have hkk : ∀ x ∈ l, x.k < 2 * signB := fun x hx => by
    obtain ⟨i, hi⟩ := List.mem_iff_getElem?.1 hx
    obtain ⟨_, _, _, _, hc⟩ := hC (List.length_pos_of_mem hx)
    exact (hc i x hi).2
  have HKK := Lib.hid hkk
  have HOK := Lib.hid hok
  have HRL := Lib.hid (And.intro hR (And.intro hrw hrl))
  have HT := Lib.hid hT
  have HF1 := Lib.hid (show 1 ≤ f ∧ f ≤ 1024 by have := (progCheck_ok hok).1; omega)
  obtain ⟨M1, hM1⟩ : ∃ M1, wholeM f l = M1 := ⟨_, rfl⟩
  rw [hM1] at KW
  have HM1 := Lib.hid hM1
  clear hC hT hok hM1 hR hrw hrl hkk
  go_enter Tryd.func3, Tryd.ntmps3
  go_upto_region 2 with (go_at_call 7; go_loud (refine (KN.out _ HB1.out).mono ?_); go_loud (rintro _ w1 ⟨g, cs, rfl, hg, hM, hb1⟩); have HBn := Lib.hid (grow_to HB1.out hb1); have HPn := Lib.hid (HP1.out.keep hb1); have HMn := Lib.hid hM; have HG := Lib.hid (Nat.le_trans HB1.out.size hg); have p0 := HPn.out.cell (j := 0) rfl; have p1 := HPn.out.cell (j := 1) rfl; clear hb1 hM hg)
  clear HB1 HP1 KN
  go_upto_region 3 with (go_at_call 8; go_loud (refine (KW.out _ HBn.out).mono ?_); go_loud (rintro _ wb ⟨ch, pi, rfl, hch, hpi, _, hb2⟩); obtain ⟨Ac, cc, rfl⟩ := own_slice hch; obtain ⟨Ap, cp, rfl⟩ := own_slice hpi; have HBb := Lib.hid (grow_to HBn.out hb2); have HPb := Lib.hid (HPn.out.keep hb2); have HMb := Lib.hid (HMn.out.keep hb2); have HCH := Lib.hid (show TextsIn wb w.heap.size _ _ from World.ownsRow.mono hch HBn.out.size); have HPI := Lib.hid (show TextsIn wb w.heap.size _ _ from World.ownsRow.mono hpi HBn.out.size); clear hch hpi hb2)
  have HO := Lib.hid (Cells.new wb 35 #[.int .i64 M1.1.rcode, .int .u64 (M1.1.rbits : Nat), .slice Ac (chunksOf M1.2).length cc, .slice Ap (piecesOf M1.2).length cp, .int .i64 (M1.1.done : Nat)])
  have hal := (Below.refl wb.heap.size wb).alloc (Nat.le_refl _) (.cells #[.int .i64 M1.1.rcode, .int .u64 (M1.1.rbits : Nat), .slice Ac (chunksOf M1.2).length cc, .slice Ap (piecesOf M1.2).length cp, .int .i64 (M1.1.done : Nat)] 35)
  have HB2 := Lib.hid (HBb.out.alloc HBb.out.size (.cells #[.int .i64 M1.1.rcode, .int .u64 (M1.1.rbits : Nat), .slice Ac (chunksOf M1.2).length cc, .slice Ap (piecesOf M1.2).length cp, .int .i64 (M1.1.done : Nat)] 35))
  have HP2 := Lib.hid (HPb.out.alloc (.cells #[.int .i64 M1.1.rcode, .int .u64 (M1.1.rbits : Nat), .slice Ac (chunksOf M1.2).length cc, .slice Ap (piecesOf M1.2).length cp, .int .i64 (M1.1.done : Nat)] 35))
  have HM2 := Lib.hid (HMb.out.alloc (.cells #[.int .i64 M1.1.rcode, .int .u64 (M1.1.rbits : Nat), .slice Ac (chunksOf M1.2).length cc, .slice Ap (piecesOf M1.2).length cp, .int .i64 (M1.1.done : Nat)] 35))
  have HCH2 := Lib.hid (show TextsIn _ _ _ _ from own_kept HCH.out hal)
  have HPI2 := Lib.hid (show TextsIn _ _ _ _ from own_kept HPI.out hal)
  have HLC : Hid (∀ k, (Value.slice Ac (chunksOf M1.2).length cc).ownBlock = some k → k < wb.heap.size + 1) := Lib.hid fun k hk => by have := (HCH.out.lt k hk).2; omega
  have HLP : Hid (∀ k, (Value.slice Ap (piecesOf M1.2).length cp).ownBlock = some k → k < wb.heap.size + 1) := Lib.hid fun k hk => by have := (HPI.out.lt k hk).2; omega
  have HBO := Lib.hid HBb.out.size
  have HLB : Hid (wb.heap.size + 1 ≤ (wb.alloc (.cells #[.int .i64 M1.1.rcode, .int .u64 (M1.1.rbits : Nat), .slice Ac (chunksOf M1.2).length cc, .slice Ap (piecesOf M1.2).length cp, .int .i64 (M1.1.done : Nat)] 35)).heap.size) := Lib.hid (by simp)
  clear HBb HPb HMb KW HBn HPn HMn HCH HPI hal p0 p1
  generalize wb.alloc (.cells #[.int .i64 M1.1.rcode, .int .u64 (M1.1.rbits : Nat), .slice Ac (chunksOf M1.2).length cc, .slice Ap (piecesOf M1.2).length cp, .int .i64 (M1.1.done : Nat)] 35) = w2 at *
  generalize wb.heap.size = Bo at *
  go_upto_region 7 with (go_at_call 9; go_loud (refine (KA.out _ HB2.out).mono ?_); rintro _ w3 ⟨rfl, hb3⟩; have HB3 := Lib.hid (grow_to HB2.out hb3); have HT3 := Lib.hid hb3; clear hb3)
  have HX3 : Hid (∀ wz, Below w3.heap.size w3 wz → ∀ c1 c2, Cells wz c1 9 #[] → Cells wz c2 9 #[] → c1 ≠ c2 → Bo + 1 ≤ c1 → Bo + 1 ≤ c2 → Tell w wz g Bo cs (.slice none 0 0) (.slice none 0 0) (.slice (some ⟨c1, 0, none⟩) 0 0) (.slice (some ⟨c2, 0, none⟩) 0 0) (.slice Ac (chunksOf M1.2).length cc) (.slice Ap (piecesOf M1.2).length cp) (newM f l) [] [] (chunksOf M1.2) (piecesOf M1.2) #[.int .i64 (f : Nat), .slice A l.length cap] #[.int .i64 M1.1.rcode, .int .u64 (M1.1.rbits : Nat), .slice Ac (chunksOf M1.2).length cc, .slice Ap (piecesOf M1.2).length cp, .int .i64 (M1.1.done : Nat)]) :=
    Lib.hid fun wz hz c1 c2 h1 h2 hne b1 b2 => ⟨(HM2.out.keep HT3.out).keep hz, own_empty h1 b1, own_empty h2 b2, (fun k e1 e2 => hne (by simp [Value.ownBlock] at e1 e2; omega)), own_kept (own_kept HCH2.out HT3.out) hz, own_kept (own_kept HPI2.out HT3.out) hz, (HP2.out.keep HT3.out).keep hz, (HO.out.keep HT3.out).keep hz, HB3.out.trans (hz.mono HB3.out.size)⟩
  have HLB3 := Lib.hid (Nat.le_trans HLB.out HT3.out.size)
  clear HB2 HP2 HO KA HM2 HCH2 HPI2 HLB HT3
  go_upto_region 8 with fail
  have ha1 := (Below.refl w3.heap.size w3).alloc (Nat.le_refl _) (.cells #[] 9)
  have ha2 := ha1.alloc (by simp) (.cells #[] 9)
  have HX := Lib.hid (HX3.out _ ha2 w3.heap.size (w3.heap.size + 1) ((Cells.new w3 _ #[]).alloc _) (Cells.newAt _ _ #[] _ (by simp)) (by omega) HLB3.out (by have := HLB3.out; omega))
  clear ha1 ha2 HX3 HLB3 HB3
  generalize (w3.alloc (.cells #[] 9)).alloc (.cells #[] 9) = w4 at *
  generalize w3.heap.size = c1 at *
  go_wp2
  go_loopw [9, 10, 11] (fun x y z wr => ∃ (i n : Nat) (nv pv : Value), i ≤ f + 1 ∧ i ≤ (runM n (newM f l)).1.done ∧ z = .int .i64 (i : Nat) ∧ (∀ k, nv.ownBlock = some k → w.heap.size ≤ k) ∧ (∀ k, pv.ownBlock = some k → w.heap.size ≤ k) ∧ Tell w wr g Bo cs nv pv x y (.slice Ac (chunksOf M1.2).length cc) (.slice Ap (piecesOf M1.2).length cp) (runM n (newM f l)).1 (chunksOf (runM n (newM f l)).2) (piecesOf (runM n (newM f l)).2) (chunksOf M1.2) (piecesOf M1.2) #[.int .i64 (f : Nat), .slice A l.length cap] #[.int .i64 M1.1.rcode, .int .u64 (M1.1.rbits : Nat), .slice Ac (chunksOf M1.2).length cc, .slice Ap (piecesOf M1.2).length cp, .int .i64 (M1.1.done : Nat)]) (fun x y z _ => f + 1 - (intOf z).toNat)
  case atStart => exact ⟨0, 0, _, _, Nat.zero_le _, Nat.zero_le _, rfl, (fun k hk => by cases hk), (fun k hk => by cases hk), HX.out⟩
  case round =>
    clear HX
    obtain ⟨i, n, nv, pv, hi, hid, rfl, hn1, hn2, hTl⟩ := hrel
    obtain ⟨A9, c9, rfl⟩ := own_slice hTl.c
    obtain ⟨A10, c10, rfl⟩ := own_slice hTl.p
    have HFIT := Lib.hid (runM_fit (P := Tryd.prog) w n (fit_new HOK.out HKK.out) (goes_new HOK.out))
    have HFW := Lib.hid (few (P := Tryd.prog) w HOK.out HKK.out n)
    have HRUN : Hid (∀ j, runM (n + j) (newM f l) = ((runM j (runM n (newM f l)).1).1, (runM n (newM f l)).2 ++ (runM j (runM n (newM f l)).1).2)) := Lib.hid fun j => runM_add n j (newM f l)
    have HEND : Hid ((runM n (newM f l)).1.over = true → runM n (newM f l) = M1) := Lib.hid fun ho => (run_whole (P := Tryd.prog) w HOK.out HKK.out ho).trans HM1.out
    obtain ⟨Ms, hMs⟩ : ∃ Ms, runM n (newM f l) = Ms := ⟨_, rfl⟩
    rw [hMs] at hid hTl HFIT HFW HRUN HEND ⊢
    clear hMs
    have HTL := Lib.hid hTl
    have HN := Lib.hid (And.intro hn1 hn2)
    have p0 : wr.cell? ⟨w.heap.size, 0, none⟩ = some (.int .i64 (f : Nat)) := hTl.pr.cell (j := 0) rfl
    have ko := over_any hTl.mw.cells
    have HID := Lib.hid hid
    have HI := Lib.hid hi
    clear hTl hn1 hn2 hid hi
    by_cases hlt : i ≤ f ∧ Ms.1.over = false
    · obtain ⟨hlt, hov⟩ := hlt
      rw [hov] at ko
      have i0 : (i : Int) ≤ (f : Int) := by omega
      have hwr : wrap64 ((i : Int) + 1) = (i : Int) + 1 := by have := HF1.out; unfold wrap64; omega
      have HOV := Lib.hid hov
      have HMS := Lib.hid (meas_dec (show i < f + 1 by omega) (show f + 1 ≤ 2048 by have := HF1.out; omega))
      have HLT := Lib.hid hlt
      clear hlt hov
      go_upto_region 12 with (go_at_call 10; go_loud (refine ko.mono ?_); rintro _ w5 ⟨rfl, e5⟩; rw [e5]; clear e5 w5)
      clear ko
      have HCS : Hid ((∃ br offr rv, Ar = some ⟨br, offr, none⟩ ∧ wr.cell? ⟨br, offr + i, none⟩ = some (.int .i64 rv) ∧ (i : Int) < (rn : Int) ∧ 1 < rv) ∨ (∃ br offr rv, Ar = some ⟨br, offr, none⟩ ∧ wr.cell? ⟨br, offr + i, none⟩ = some (.int .i64 rv) ∧ (i : Int) < (rn : Int) ∧ decide (1 < rv) = false) ∨ ¬ (i : Int) < (rn : Int)) := Lib.hid (by
        obtain ⟨hR, hrw, hrl⟩ := HRL.out
        by_cases h1 : i < rn
        · obtain ⟨br, offr, hA, hbr, hcr⟩ := hR (by omega)
          have r0 : wr.cell? ⟨br, offr + i, none⟩ = some (.int .i64 (rl.getD i 0)) := (HTL.out.bel.cell (p := ⟨br, offr + i, none⟩) hbr).trans (hcr i (by omega))
          by_cases h2 : 1 < rl.getD i 0
          · exact .inl ⟨br, offr, _, hA, r0, by omega, h2⟩
          · exact .inr (.inl ⟨br, offr, _, hA, r0, by omega, decide_eq_false h2⟩)
        · exact .inr (.inr (by omega)))
      have i4 : (0 : Int) ≤ (i : Int) := by omega
      have KR : Hid (∀ mi : Int, 1 ≤ mi → Calls Tryd.prog 12 #[.pointer (some ⟨g, 0, none⟩), .int .i64 mi] wr fun e w' => ∃ (ms : Nat) (lv nv' pv' : Value), (ms : Int) = mi ∧ e = .returned lv ∧ ActsIn w' wr.heap.size lv (runM ms Ms.1).2 ∧ Anew wr nv nv' ∧ Anew wr pv pv' ∧ Mw w' g cs nv' pv' (runM ms Ms.1).1 ∧ Turns (mOwn g nv pv) wr w') := Lib.hid fun mi hmi => by
        have HMO := mOwn_ge HG.out HN.out.1 HN.out.2
        refine (run_any HTL.out.mw HFIT.out.1 HFIT.out.2.1 (fun wz hz => HT.out wz (HTL.out.bel.trans (hz.below HTL.out.bel.size HMO))) mi).mono ?_
        rintro e w' ⟨lv, nv', pv', h⟩
        exact ⟨mi.toNat, lv, nv', pv', by omega, h⟩
      have KD := Lib.hid (done_any HTL.out.mw.cells)
      have hcs := HCS.out
      clear HCS HRL
      rcases hcs with ⟨br, offr, rv, rfl, r0, i3, h2⟩ | ⟨br, offr, rv, rfl, r0, i3, h2⟩ | i3
      all_goals
        focus
          have HMO : Hid (∀ x ∈ mOwn g nv pv, w.heap.size ≤ x) := Lib.hid (mOwn_ge HG.out HN.out.1 HN.out.2)
          go_upto_region 15 with (go_at_call 11; go_loud (refine KD.out.mono ?_); rintro _ w5 ⟨rfl, e5⟩; rw [e5]; clear e5 w5)
          go_upto_region 16 with (go_at_call 12; go_loud (with_reducible (refine (KR.out _ (by first | omega | decide)).mono ?_)); go_loud (rintro _ w6 ⟨ms, lv, nv6, pv6, hms, rfl, hA6, ha1, ha2, hM6, hT6⟩); go_loud (obtain ⟨A14, c14, rfl⟩ := own_slice hA6); have HA6 := Lib.hid hA6; have HX6 := Lib.hid (And.intro ha1 (And.intro ha2 (And.intro hM6 hT6))); have HMI := Lib.hid hms; clear hA6 ha1 ha2 hM6 hT6 hms)
          have hms : 1 ≤ ms := by have := HMI.out; omega
          have hA6 := HA6.out
          obtain ⟨ha1, ha2, hM6, hT6⟩ := HX6.out
          have HF6 := Lib.hid (runM_fit (P := Tryd.prog) w ms HFIT.out.1 HFIT.out.2.1)
          have HD1 := Lib.hid (run_done_one (P := Tryd.prog) w HFIT.out.1 HFIT.out.2.1 HOV.out hms)
          have HD2 := Lib.hid (run_done_add (P := Tryd.prog) w ms HFIT.out.1 HFIT.out.2.1)
          have HFW2 := Lib.hid (few (P := Tryd.prog) w HOK.out HKK.out (n + ms))
          have HR2 := Lib.hid (HRUN.out ms)
          have HCN := Lib.hid (run_counts ms Ms.1).2.2
          rw [HR2.out] at HFW2
          obtain ⟨Mr, hMr⟩ : ∃ Mr, runM ms Ms.1 = Mr := ⟨_, rfl⟩
          rw [hMr] at hA6 hM6 HF6 HD1 HD2 HFW2 HR2 HCN ⊢
          clear hMr
          have HFU : Hid (Mr.1.done ≤ f) := Lib.hid (by
            have h1 := HF6.out.1.done
            rw [HF6.out.2.2.2, HFIT.out.2.2.2] at h1
            exact h1)
          have HA6 := Lib.hid (show ActsIn w6 0 _ Mr.2 from World.ownsRow.mono hA6 (Nat.zero_le _))
          have HT6 := Lib.hid (HTL.out.run hM6 hT6 HMO.out)
          have HN6 := Lib.hid (And.intro (anew_ge ha1 HTL.out.bel.size HN.out.1) (anew_ge ha2 HTL.out.bel.size HN.out.2))
          clear hA6 ha1 ha2 hM6 hT6 HX6 hms
          clear HTL p0 KD KR
          have kd6 := fun k => done_any (Cells.drewN HT6.out.mw.cells k)
          have p0 : w6.cell? ⟨w.heap.size, 0, none⟩ = some (.int .i64 (f : Nat)) := HT6.out.pr.cell (j := 0) rfl
          obtain ⟨D', hD'⟩ : ∃ D', Mr.1.done = D' := ⟨_, rfl⟩
          obtain ⟨D, hD⟩ : ∃ D, Ms.1.done = D := ⟨_, rfl⟩
          rw [hD'] at kd6 HD1 HD2 HFU
          rw [hD] at HD1 HD2 HID ⊢
          have HDD := Lib.hid hD'
          have hd1 := HD1.out
          have hd2 := HD2.out
          have hd3 := HFU.out
          have hd4 := HF1.out
          have a0 : wrap64 ((D' : Int) - (D : Int)) = (D' : Int) - (D : Int) := by unfold wrap64; omega
          have a1 : decide ((D' : Int) ≤ (D : Int)) = false := decide_eq_false (by omega)
          have hA2 : ∀ mi : Int, (ms : Int) = mi → decide (mi < (D' : Int) - (D : Int)) = false := fun mi h => decide_eq_false (by omega)
          have a2 := hA2 _ HMI.out
          clear hA2
          have a3 : decide ((f : Int) < (D' : Int)) = false := decide_eq_false (by omega)
          have a4 : decide (D' ≤ D) = false := decide_eq_false (by omega)
          have a5 : decide (f < D') = false := decide_eq_false (by omega)
          clear hD' hD hd1 hd2 hd3 hd4
          go_quiet ((go_at_call 11; exact Calls.quiet_of_same (kd6 _)))
          have HTz := Lib.hid (HT6.out.keep (below_drewN (Below.refl _ _) nq))
          have HAz := Lib.hid (show ActsIn _ _ _ _ from own_kept HA6.out (below_drewN (Below.refl _ _) nq))
          clear HT6 HA6 kd6 p0 a0 a1 a2 a3 a4 a5
          generalize w6.drewN nq = wz at *
          have HLN : Hid (Mr.2.length ≤ 48) := Lib.hid (by
            have h1 := HFW2.out
            dsimp only at h1
            have h2 := acts_count (Ms.2 ++ Mr.2)
            simp only [List.length_append] at h2
            omega)
          have HSM : Hid (∀ k, (chunksOf (Ms.2 ++ Mr.2.take k)).length < 1073741824 ∧ (piecesOf (Ms.2 ++ Mr.2.take k)).length < 1073741824) := Lib.hid fun k => by
            have h1 := HFW2.out
            dsimp only at h1
            have h2 := acts_count (Ms.2 ++ Mr.2)
            have h3 := acts_count (Ms.2 ++ Mr.2.take k)
            simp only [List.length_append, List.length_take] at h2 h3
            omega
          obtain ⟨i1, hq1, hz1, hsz1, hby1⟩ := info_str
          go_wp2
          go_loopw [9, 10, 15] (fun x y z wq => ∃ (k : Nat), k ≤ Mr.2.length ∧ z = .int .i64 (k : Nat) ∧ ActsIn wq 0 (.slice A14 Mr.2.length c14) Mr.2 ∧ Tell w wq g Bo cs nv6 pv6 x y (.slice Ac (chunksOf M1.2).length cc) (.slice Ap (piecesOf M1.2).length cp) Mr.1 (chunksOf (Ms.2 ++ Mr.2.take k)) (piecesOf (Ms.2 ++ Mr.2.take k)) (chunksOf M1.2) (piecesOf M1.2) #[.int .i64 (f : Nat), .slice A l.length cap] #[.int .i64 M1.1.rcode, .int .u64 (M1.1.rbits : Nat), .slice Ac (chunksOf M1.2).length cc, .slice Ap (piecesOf M1.2).length cp, .int .i64 (M1.1.done : Nat)]) (fun x y z _ => Mr.2.length - (intOf z).toNat)
          case atStart => exact ⟨0, Nat.zero_le _, rfl, HAz.out, by rw [List.take_zero, List.append_nil]; exact HTz.out⟩
          case round =>
            clear HTz HAz
            obtain ⟨k, hk, rfl, hA, hTl⟩ := hrel
            obtain ⟨A9, c9, rfl⟩ := own_slice hTl.c
            obtain ⟨A10, c10, rfl⟩ := own_slice hTl.p
            have HTq := Lib.hid hTl
            have HAq := Lib.hid hA
            clear hTl hA
            by_cases hlt : k < Mr.2.length
            · obtain ⟨a, ha⟩ : ∃ a, Mr.2[k]? = some a := ⟨_, List.getElem?_eq_getElem hlt⟩
              obtain ⟨b, rfl, hb, a0, a1⟩ := acts_at HAq.out ha
              have htk : Ms.2 ++ Mr.2.take (k + 1) = (Ms.2 ++ Mr.2.take k) ++ [a] := by rw [take_succ_act ha, List.append_assoc]
              have HTK := Lib.hid htk
              have HAT := Lib.hid ha
              have h32 := HCN.out a (List.mem_of_getElem? ha)
              have i5 : (0 : Int) ≤ (k : Int) := by omega
              have i6 : (k : Int) < (Mr.2.length : Int) := by omega
              have hwk : wrap64 ((k : Int) + 1) = (k : Int) + 1 := by have := HLN.out; unfold wrap64; omega
              have HMK := Lib.hid (meas_dec hlt (show Mr.2.length ≤ 2048 by have := HLN.out; omega))
              have HLK := Lib.hid hlt
              have i7 : ¬ (32 : Int) < (a.2.length : Int) := by omega
              have HS1 := Lib.hid (HSM.out k)
              have hbq : Bo + 1 ≤ Mr.2.length + Bo + 1 := by omega
              clear ha htk h32 hlt hk hbq
              have HAl := Lib.hid ((Below.refl wr.heap.size wr).alloc (Nat.le_refl _) (.cells #[.string ⟨a.2.toArray⟩] 9))
              have HBQ : Hid (Bo + 1 ≤ wr.heap.size) := Lib.hid HTq.out.ot.lt
              obtain ⟨lc, hlc⟩ : ∃ lc, chunksOf (Ms.2 ++ Mr.2.take k) = lc := ⟨_, rfl⟩
              obtain ⟨lp, hlp⟩ : ∃ lp, piecesOf (Ms.2 ++ Mr.2.take k) = lp := ⟨_, rfl⟩
              rw [hlc] at HTq HS1 ⊢
              rw [hlp] at HTq HS1 ⊢
              have HLL := Lib.hid (And.intro hlc hlp)
              clear hlc hlp
              obtain ⟨ML, hML⟩ : ∃ ML, Mr.2.length = ML := ⟨_, rfl⟩
              have HMLE := Lib.hid hML
              rw [hML] at HMK HLK i6 HAq ⊢
              clear hML
              by_cases h1 : a.1 = 1
              · have t1 : (a.1 == 1) = true := by rw [beq_iff_eq]; exact h1
                have HH1 := Lib.hid h1
                clear h1
                go_wp2_with (at_builtin; refine wpList_append_elem' rfl _ _ _ rfl (Bo + 1) 9 i1 _ 1 16 Tryd.underlying33 hq1 hz1 hsz1 hby1 rfl (by decide) (.slice A9 lc.length c9) lc.length (lc.map fun s : List UInt8 => Value.string ⟨s.toArray⟩) rfl HTq.out.c #[.string ⟨a.2.toArray⟩] rfl (by simp [Value.oneCell']) _ rfl (by simp) HS1.out.1 (by decide) (by have := HBQ.out; simp; omega) ?_; intro v' W4 ho4 hgr4 hat4; have HT4 := Lib.hid (HTq.out.chunk HLC.out HLP.out HBO.out ho4 hgr4 hat4); have HA4 := Lib.hid (acts_grown HAq.out HTq.out.c hgr4 (by decide)); have y1 := acts_cell HA4.out HAT.out; clear ho4 hgr4 hat4)
                refine ⟨⟨k + 1, HLK.out, by go_num, HA4.out, by rw [HTK.out, chunks_snoc, pieces_snoc, if_pos HH1.out, if_pos HH1.out, HLL.out.1, HLL.out.2]; exact HT4.out⟩, by first | exact HMK.out.1 | exact HMK.out.2⟩
              · have t1 : (a.1 == 1) = false := by rw [beq_eq_false_iff_ne]; exact h1
                have HH1 := Lib.hid h1
                clear h1
                go_wp2_with (at_builtin; refine wpList_append_elem' rfl _ _ _ rfl (Bo + 1) 9 i1 _ 1 16 Tryd.underlying33 hq1 hz1 hsz1 hby1 rfl (by decide) (.slice A10 lp.length c10) lp.length (lp.map fun s : List UInt8 => Value.string ⟨s.toArray⟩) rfl HTq.out.p #[.string ⟨a.2.toArray⟩] rfl (by simp [Value.oneCell']) _ rfl (by simp) HS1.out.2 (by decide) (by have := HBQ.out; simp; omega) ?_; intro v' W4 ho4 hgr4 hat4; have HT4 := Lib.hid (HTq.out.piece HLC.out HLP.out HBO.out ho4 hgr4 hat4); have HA4 := Lib.hid (acts_grown HAq.out HTq.out.p hgr4 (by decide)); have y1 := acts_cell HA4.out HAT.out; clear ho4 hgr4 hat4)
                refine ⟨⟨k + 1, HLK.out, by go_num, HA4.out, by rw [HTK.out, chunks_snoc, pieces_snoc, if_neg HH1.out, if_neg HH1.out, HLL.out.1, HLL.out.2]; exact HT4.out⟩, by first | exact HMK.out.1 | exact HMK.out.2⟩
            · obtain rfl : k = Mr.2.length := by omega
              have i6 : ¬ (Mr.2.length : Int) < (Mr.2.length : Int) := by omega
              rw [List.take_length] at HTq ⊢
              have HREG : Hid (∀ j, j < 8 → Calls Tryd.prog 13 #[.int .u64 (Mr.1.regs.getD j 0 : Nat)] wr fun e w' => e = .returned (.int .u64 (Mr.1.regs.getD j 0 : Nat)) ∧ w' = wr) := Lib.hid fun j hj => by
                have hc : Can (Mr.1.regs.getD j 0) := by
                  rw [List.getD_eq_getElem?_getD, List.getElem?_eq_getElem (by rw [HF6.out.1.rlen]; exact hj)]
                  exact HF6.out.1.regs _ (List.getElem_mem _)
                have h1 : Mr.1.regs.getD j 0 < 2 * 9223372036854775808 := hc.1
                refine (rcanon_any (Mr.1.regs.getD j 0 : Nat) wr (by omega) (by omega)).mono fun e w' ⟨he, hw⟩ => ⟨?_, hw.symm⟩
                rw [he, canon_fcan, hc.2]
              clear hk hlt
              obtain ⟨ML, hML⟩ : ∃ ML, Mr.2.length = ML := ⟨_, rfl⟩
              have HMLE := Lib.hid hML
              rw [hML] at i6 HAq ⊢
              clear hML
              go_wp2
              go_loopw [16] (fun x wz => ∃ j : Nat, j ≤ 8 ∧ x = .int .i64 (j : Nat) ∧ wz = wr) (fun x _ => 8 - (intOf x).toNat)
              case atStart => exact ⟨0, by omega, rfl, rfl⟩
              case round =>
                obtain ⟨j, hj, rfl, hww⟩ := hrel
                rw [hww]
                clear hww
                by_cases hj8 : j < 8
                · have kreg := reg_any HTq.out.mw.cells j hj8
                  have kcan := HREG.out j hj8
                  generalize Mr.1.regs.getD j 0 = rv at *
                  have i8 : (j : Int) < 8 := by omega
                  have hwj : wrap64 ((j : Int) + 1) = (j : Int) + 1 := by unfold wrap64; omega
                  have HMJ := Lib.hid (meas_dec hj8 (by omega))
                  have HJ := Lib.hid hj8
                  clear hj8 hj
                  go_wp2_with (first | (go_at_call 14; go_loud (refine kreg.mono ?_); rintro _ w9 ⟨rfl, e9⟩; rw [e9]; clear e9 w9) | (go_at_call 13; go_loud (refine kcan.mono ?_); rintro _ w9 ⟨rfl, e9⟩; rw [e9]; clear e9 w9))
                  refine ⟨⟨j + 1, HJ.out, by go_num, by trivial⟩, by first | exact HMJ.out.1 | exact HMJ.out.2⟩
                · obtain rfl : j = 8 := by omega
                  clear hj8 hj
                  go_wp2
                  refine ⟨⟨i + 1, n + ms, nv6, pv6, Nat.succ_le_succ HLT.out, by rw [HR2.out]; have h1 := HID.out; have h2 := HD1.out; have h3 := HDD.out; simp only; omega, by go_num, HN6.out.1, HN6.out.2, by rw [HR2.out]; exact HTq.out⟩, by first | exact HMS.out.1 | exact HMS.out.2⟩
    · have hov : Ms.1.over = true := by
        cases ho : Ms.1.over with
        | true => rfl
        | false =>
          have h1 := HFIT.out.1.done
          rw [HFIT.out.2.2.2] at h1
          have h2 : (newM f l).fuel = f := rfl
          have h3 : ¬ (i ≤ f) := fun h => hlt ⟨h, ho⟩
          have h4 := HID.out
          omega
      obtain rfl := HEND.out hov
      rw [hov] at ko
      have hway : ¬ (i : Int) ≤ (f : Int) ∨ (i : Int) ≤ (f : Int) := by omega
      have hfc := HFW.out
      have KO : Hid (∀ y : BW wr, Calls Tryd.prog 10 #[.pointer (some ⟨g, 0, none⟩)] y.val fun e w' => e = .returned (.bool true) ∧ w' = y.val) := Lib.hid fun y => by
        have h := over_any (HTL.out.keep y.below).mw.cells
        rw [hov] at h
        exact h
      have KR : Hid (∀ y : BW wr, _) := Lib.hid fun y => result_any (HTL.out.keep y.below).mw.cells
      have KD : Hid (∀ y : BW wr, _) := Lib.hid fun y => done_any (HTL.out.keep y.below).mw.cells
      have KS1 : Hid (∀ y : BW wr, _) := Lib.hid fun y => sameTexts_any (cap := c9) (cap' := cc) y.val (reads_of (HTL.out.keep y.below).c) (reads_of (HTL.out.keep y.below).oc) (by omega)
      have KS2 : Hid (∀ y : BW wr, _) := Lib.hid fun y => sameTexts_any (cap := c10) (cap' := cp) y.val (reads_of (HTL.out.keep y.below).p) (reads_of (HTL.out.keep y.below).op) (by omega)
      have KO0 := Lib.hid ko
      clear hlt hov ko
      have i7 : ((chunksOf Ms.2).length : Int) ≤ 32 := by omega
      have i8 : ((piecesOf Ms.2).length : Int) ≤ 16 := by omega
      have q0 : ∀ y : BW wr, y.val.cell? ⟨Bo, 0, none⟩ = some (.int .i64 Ms.1.rcode) := fun y => (HTL.out.keep y.below).ot.cell (j := 0) rfl
      have q1 : ∀ y : BW wr, y.val.cell? ⟨Bo, 1, none⟩ = some (.int .u64 (Ms.1.rbits : Nat)) := fun y => (HTL.out.keep y.below).ot.cell (j := 1) rfl
      have q2 : ∀ y : BW wr, y.val.cell? ⟨Bo, 2, none⟩ = some (.slice Ac (chunksOf Ms.2).length cc) := fun y => (HTL.out.keep y.below).ot.cell (j := 2) rfl
      have q3 : ∀ y : BW wr, y.val.cell? ⟨Bo, 3, none⟩ = some (.slice Ap (piecesOf Ms.2).length cp) := fun y => (HTL.out.keep y.below).ot.cell (j := 3) rfl
      have q4 : ∀ y : BW wr, y.val.cell? ⟨Bo, 4, none⟩ = some (.int .i64 (Ms.1.done : Nat)) := fun y => (HTL.out.keep y.below).ot.cell (j := 4) rfl
      have hrs := res_self Ms.1.rcode (Ms.1.rbits : Nat)
      clear hfc
      rcases hway with i0 | i0
      all_goals
        go_upto_region 31 with (go_at_call 10; go_loud (refine KO0.out.mono ?_); rintro _ w5 ⟨rfl, e5⟩; rw [e5]; clear e5 w5)
        clear p0
        refine wp_region_bw (w := wr) (by kernel_rfl) (by kernel_rfl) ?_
        repeat (refine wpQuiet_step (fun K hK => ?_); go_simp; first | (refine hK _ ?_; clear hK K) | (apply Exists.intro; refine ⟨fun _ => ?_, hK _ ?_⟩; (first | (go_at_call 10; with_reducible exact Calls.quiet_bw_same (KO.out _)) | (go_at_call 15; with_reducible exact Calls.quiet_bw (KR.out _)) | (go_at_call 11; with_reducible exact Calls.quiet_bw_same (KD.out _)) | (go_at_call 16; first | with_reducible exact Calls.quiet_bw_drewN (KS1.out _) | with_reducible exact Calls.quiet_bw_drewN (KS2.out _))); clear hK K))
        refine wpQuiet_nil ?_
        intro yq
        go_wp2
        go_ret
        exact ⟨by first | rfl | simp, HTL.out.bel.trans (yq.below.mono HTL.out.bel.size)⟩
theorem walk {fuel : Int} {A Ar : Option Addr} {l : List Ins} {rl : List Int} {cap rn rc : Nat} (w : World) (hC : CodeIn w w.heap.size A l) (hR : Sl w w.heap.size 1 Ar rn (intCell rl)) (hrw : ∀ x ∈ rl, (Lit.int .i64 x).wf = true) (hrl : rl.length = rn) (hT : ∀ wz, Below w.heap.size w wz → TabsAt wz) :
    Calls Tryd.prog 3 #[.agg #[.int .i64 fuel, .slice A l.length cap], .slice Ar rn rc] w fun e w' => e = .returned (.bool true) ∧ Below w.heap.size w w' := by
  by_cases hne : (progCheck fuel l).1 = 0
  · obtain ⟨f, rfl⟩ := Int.eq_ofNat_of_zero_le (show 0 ≤ fuel by have := (progCheck_ok hne).1; omega)
    exact walk_good w hC hR hrw hrl hT hne
  · exact walk_bad w hC hT hne

-- LIFT
set_option maxRecDepth 100000 in
theorem contract (H : Type) (enc : TypeId × Value → H) (W : World) (base : Nat) (args : Array Value) (ds gs : List (DataW H)) (before : List MemPlace)
    (hval : ∀ (j : Nat) t v, Tryd.f3.params[j]? = some t → args[j]? = some v → Value.okWide Tryd.prog W .any base t v)
    (hW : DataW.Whole enc Tryd.prog Tryd.f3.params.toList Rows.interpEndsSpec.vars false W args.toList ds gs before) (hL : laidMetH Tryd.prog Rows.interpEndsRow.laid W) :
    Calls Tryd.prog 3 args W fun e W' => ∃ v, e = .returned v ∧ Rows.interpEndsSpec.post enc Tryd.prog Tryd.f3 false true false false W args v W' := by
  have hT0 := tabs_of (show laidMetH Tryd.prog laidOf W from hL)
  have hT : ∀ wz, Below W.heap.size W wz → TabsAt wz := fun wz hz => tabs_keep hz hT0
  clear hL
  have hts : Tryd.f3.params.toList.all (fun t => Tryd.prog.readableRec t && decide (t < Tryd.prog.types.size)) = true := by kernel_rfl
  have hW' := hW
  obtain ⟨p, q, hA0, hV, rfl, hfz, hnd⟩ := hW
  have hA : DataW.TrodAll enc Tryd.prog W 0 (fun _ => true) true Tryd.f3.params.toList args.toList ds p := hA0
  rw [Tryd.params3] at hA hval
  obtain ⟨v0, vs0, d0, ds0, p0, q0, hargs, rfl, rfl, h0, r0⟩ := trodAll_cons hA
  obtain ⟨v1, vs1, d1, ds1, p1, q1, rfl, rfl, rfl, h1, r1⟩ := trodAll_cons r0
  obtain ⟨rfl, rfl, rfl⟩ := trodAll_nil r1
  obtain rfl : args = #[v0, v1] := by cases args; simp_all
  obtain ⟨rfl, rfl⟩ := trodVars_none hV
  have hfn : Rows.interpEndsSpec.fn H ([d0, d1] ++ []) = { results := [.lit (.bool true)], args := [d0, d1] } := rfl
  have hfin := fun W' (hbel : Below W.heap.size W W') => law_post (f := Tryd.f3) (s := Rows.interpEndsSpec) 4 Tryd.laid hts rfl Tryd.underlying4 rfl hfn hW' hbel
  clear hA0 hts hfn
  obtain ⟨fu0, A0, l0, c0, rfl, hC0, hf0, hg0⟩ := open_prog (hval 0 24 v0 rfl rfl) h0
  obtain ⟨A1, n1, c1, l1, rfl, hR1, hl1, hw1⟩ := open_rowsI (hval 1 25 v1 rfl rfl) h1
  exact (walk W hC0 hR1 hw1 hl1 hT).mono fun e W' ⟨he, hg⟩ => ⟨_, he, hfin W' hg⟩

theorem reads (os : Os) {H : Type} (enc : TypeId × Value → H) : ∃ places, DataW.whole enc Tryd.prog ((laidWorld os).forCall (fun _ _ => 0) ⟨#[], #[.agg #[.int .i64 0, .slice none 0 0], .slice none 0 0], []⟩).memory Tryd.f3.params.toList Rows.interpEndsSpec.vars false #[.agg #[.int .i64 0, .slice none 0 0], .slice none 0 0].toList 8 = some ([.agg [.lit (.int .i64 0), .nil], .nil], [], places) :=
  ⟨[], by kernel_rfl⟩
theorem laid_met (os : Os) : laidMet Tryd.prog Rows.interpEndsRow.laid ((laidWorld os).forCall (fun _ _ => 0) ⟨#[], #[.agg #[.int .i64 0, .slice none 0 0], .slice none 0 0], []⟩).memory := laid_here os #[.agg #[.int .i64 0, .slice none 0 0], .slice none 0 0]

set_option maxRecDepth 100000 in
theorem lifted (os : Os) (started : os.Started) (H : Type) (enc : TypeId × Value → H) (F : Stop.Interp) :
    ReturnsInHanded {} Tryd.checked os 3 .any ((OpenSpec.ofChange Rows.interpEndsSpec).preRow enc Tryd.prog Tryd.f3 Rows.interpEndsRow.domain false Rows.interpEndsRow.laid) (((OpenSpec.ofChange Rows.interpEndsSpec).at F).post enc Tryd.prog Tryd.f3 false true false false) := by
  obtain ⟨places, hx⟩ := reads os enc
  refine returnsInHanded_of_row (C := Tryd.checked) (s := OpenSpec.ofChange Rows.interpEndsSpec) Tryd.own started (by kernel_rfl) Tryd.func3
    (witness_row_atRef (enc := enc) (C := Tryd.checked) false (laidWorld os) #[.agg #[.int .i64 0, .slice none 0 0], .slice none 0 0] rfl (by kernel_rfl) (by kernel_rfl) (by kernel_rfl)
      (OpenSpec.preRow_of_cond 8 hx (by kernel_rfl) (fun k hk => by cases hk) (by kernel_rfl) (laid_met os))) ?_
  intro W base args ds gs before hval hW _ _ _ hL _ _
  exact contract H enc W base args ds gs before hval hW hL

theorem said : Rows.InterpEndsSaid :=
  OpenClaim.holds_of_cond 3 Tryd.f3 rfl rfl rfl rfl rfl rfl rfl ⟨rfl, rfl, rfl, rfl, rfl⟩ rfl rfl rfl rfl rfl (by kernel_rfl) Tryd.func3 (by kernel_rfl)
    (of_decide_eq_true (by kernel_rfl)) (by unfold Func.isWrapper; first | (rw [if_pos (by decide +kernel)]; kernel_rfl) | (rw [if_neg (by decide +kernel)]; exact ⟨rfl, rfl⟩))
    (fun os started H enc _ F => by rw [OpenClaim.pre_eq_preRow]; exact lifted os started H enc F)

theorem plain (f : FuncId) (fn : Func) (hf : Tryd.pinned.checked.prog.funcNamed "gaffer/gafferlaw06.InterpEnds" = some f) (hfn : Tryd.pinned.checked.prog.funcs[f]? = some fn) :
    true = Tryd.pinned.checked.prog.looks [] ∧ ∀ (j : Nat) t, fn.params[j]? = some t → Tryd.pinned.checked.prog.wantsStandIn t = false := by
  obtain rfl : f = 3 := Option.some.inj ((show Tryd.prog.funcNamed "gaffer/gafferlaw06.InterpEnds" = some 3 by kernel_rfl).symm.trans hf) |>.symm
  obtain rfl : fn = Tryd.f3 := (Option.some.inj (Tryd.func3.symm.trans hfn)).symm
  refine ⟨by kernel_rfl, fun j t ht => ?_⟩
  rw [Tryd.params3] at ht
  have hm := Array.mem_of_getElem? ht
  simp only [List.mem_toArray, List.mem_cons, List.not_mem_nil, or_false] at hm
  rcases hm with rfl | rfl
  · exact (show Tryd.prog.wantsStandIn 24 = false by kernel_rfl)
  · exact (show Tryd.prog.wantsStandIn 25 = false by kernel_rfl)

theorem proved : Rows.InterpEndsCardSaid :=
  Claim7.holds_tied_plain_at .later [] _ _ _ _ said (fun _ h => by cases h) (by kernel_rfl) (fun _ h => by cases h) interpEnds_row_tie rfl ⟨rfl, rfl⟩ (by kernel_rfl) rfl plain (by kernel_rfl)

end Go.Proofs.YtjloiclbknfomaaDoor.interpEnds
