/- interp.New: a machine that has done nothing (contract). -/
import Derived.Test.YtjloiclbknfomaaGreatDoorKt
set_option maxRecDepth 100000
namespace Go.Proofs.YtjloiclbknfomaaGreatDoor
open Go.RowKit Ieee

theorem info_ins : ∃ i, Tryz.prog.info? 77 = some i ∧ i.zero = some (.agg #[.int .i64 0, .int .i64 0, .int .i64 0, .int .i64 0, .int .i64 0, .int .u64 0]) ∧ i.size = 6 ∧ i.bytes = 48 := info_split (by kernel_rfl)

theorem flat_cells (l : List Ins) (i j : Nat) (hj : j < 6) (x : Ins) (h : l[i]? = some x) : (l.flatMap Ins.cells)[i * 6 + j]? = x.cells[j]? := by
  induction l generalizing i with
  | nil => simp at h
  | cons y l ih =>
    cases i with
    | zero =>
      simp at h
      subst h
      rw [List.flatMap_cons, List.getElem?_append_left (by simp [Ins.cells]; omega)]
      simp
    | succ i =>
      simp at h
      rw [List.flatMap_cons, List.getElem?_append_right (by simp [Ins.cells]; omega)]
      have : (i + 1) * 6 + j - (Ins.cells y).length = i * 6 + j := by simp [Ins.cells]; omega
      rw [this]
      exact ih i h
theorem flat_len (l : List Ins) : (l.flatMap Ins.cells).length = l.length * 6 := by
  induction l with
  | nil => rfl
  | cons y l ih => rw [List.flatMap_cons, List.length_append, ih]; simp [Ins.cells]; omega
theorem flat_one (l : List Ins) : ∀ u ∈ l.flatMap Ins.cells, u.oneCell' = true := by
  intro u hu
  obtain ⟨x, _, hx⟩ := List.mem_flatMap.1 hu
  simp [Ins.cells] at hx
  rcases hx with rfl | rfl | rfl | rfl | rfl | rfl <;> rfl
/-- the code's cells, as a list -/
theorem code_cells {w : World} {b off : Nat} {l : List Ins} (h : ∀ (i : Nat) (x : Ins), l[i]? = some x → InsAt w b (off + i * 6) x) : ∀ (j : Nat) (u : Value), (l.flatMap Ins.cells)[j]? = some u → w.cell? ((⟨b, off, none⟩ : Addr).add j) = some u := by
  intro j u hu
  rw [add_plain]
  have hlt : j < (l.flatMap Ins.cells).length := (List.getElem?_eq_some_iff.1 hu).1
  rw [flat_len] at hlt
  have hi : j / 6 < l.length := by omega
  have hx : l[j / 6]? = some (l[j / 6]'hi) := List.getElem?_eq_getElem hi
  obtain ⟨c0, c1, c2, c3, c4, c5⟩ := h _ _ hx
  have hd : j = j / 6 * 6 + j % 6 := by omega
  have hr : j % 6 < 6 := Nat.mod_lt _ (by decide)
  rw [hd, flat_cells l _ _ hr _ hx] at hu
  have e : off + j = off + j / 6 * 6 + j % 6 := by omega
  rw [e]
  generalize j % 6 = r at *
  match r, hr with
  | 0, _ => exact c0.trans hu
  | 1, _ => exact c1.trans hu
  | 2, _ => exact c2.trans hu
  | 3, _ => exact c3.trans hu
  | 4, _ => exact c4.trans hu
  | 5, _ => exact c5.trans hu

theorem slice_some (b off n c : Nat) (w : World) : (binOp .eql 22 (.slice (some ⟨b, off, none⟩) n c) (.slice none 0 0)).run Tryz.prog w = .ok (.bool false) w := by kernel_rfl
set_option maxHeartbeats 1000000 in
theorem clone_ins {A : Option Addr} {l : List Ins} {cap : Nat} (w : World) (hC : CodeIn w w.heap.size A l) (h0 : 0 < l.length) (h1 : l.length ≤ 64) :
    Calls Tryz.prog 27 #[.slice A l.length cap] w fun e w' => ∃ v, e = .returned v ∧ w'.ownsRow w.heap.size 77 6 v l.length (l.flatMap Ins.cells) ∧ Below w.heap.size w w' := by
  obtain ⟨b, off, rfl, hb, hc⟩ := hC h0
  obtain ⟨i1, hq1, hz1, hsz1, hby1⟩ := info_ins
  have hnews := code_cells (w := (w.alloc (.cells #[] 77))) (b := b) (off := off) (l := l) (fun i x hx => (hc i x hx).1.keep ((Below.refl _ _).alloc (Nat.le_refl _) _) hb)
  have HN := Lib.hid hnews
  have HO := Lib.hid (flat_one l)
  have HL := Lib.hid (flat_len l)
  have hrow : (w.alloc (.cells #[] 77)).ownsRow w.heap.size 77 6 (.slice (some ⟨w.heap.size, 0, none⟩) 0 0) 0 [] := World.ownsRow_made w #[] 0 (Nat.le_refl _) (by decide) (by simp)
  have HR := Lib.hid hrow
  have HB0 := Lib.hid ((Below.refl w.heap.size w).alloc (Nat.le_refl _) (.cells #[] 77))
  have hnil := slice_some b off l.length cap
  clear hC hc hnews hrow
  go_enter Tryz.func27, Tryz.ntmps27
  go_upto_region 3 with (fail)
  go_wp2_with (at_builtin; refine wpList_append_own_at _ rfl _ _ _ rfl w.heap.size 77 i1 _ 6 48 Tryz.underlying22 hq1 hz1 hsz1 hby1 rfl (by decide) _ 0 [] rfl HR.out ⟨b, off, none⟩ l.length cap (l.flatMap Ins.cells) rfl HL.out HN.out HO.out (by unfold maxLen; omega) (by omega) (by simp) ?_; intro v' W4 ho hgr hlt hat; have HOO := Lib.hid ho; have HGR := Lib.hid hgr; obtain ⟨Ak, capk, rfl⟩ := own_slice ho; clear ho hgr hlt hat)
  go_ret
  refine ⟨_, rfl, ?_, ?_⟩
  · have h := HOO.out
    simpa using h
  · refine HB0.out.grown HGR.out (by simp) fun k hk => ?_
    have hk' : some w.heap.size = some k := hk
    injection hk' with hk'
    omega

def progV (fuel : Nat) (A : Option Addr) (len cap : Nat) : Value := .agg #[.int .i64 (fuel : Nat), .slice A len cap]
theorem new_bad {fuel : Int} {A : Option Addr} {l : List Ins} {cap : Nat} (w : World) (hC : CodeIn w w.heap.size A l) (hne : (progCheck fuel l).1 ≠ 0) :
    Calls Tryz.prog 9 #[.agg #[.int .i64 fuel, .slice A l.length cap]] w fun e w' => e = .returned (.tuple #[.pointer none, .int .i64 (progCheck fuel l).1]) ∧ Below w.heap.size w w' := by
  have kc := fun W (hW : CodeIn W W.heap.size A l) => check_any fuel A l cap W hW
  have HC := Lib.hid ((hC.keep ((Below.refl _ _).alloc (Nat.le_refl _) (.cells #[.int .i64 fuel, .slice A l.length cap] 24))).more (B' := (w.alloc (.cells #[.int .i64 fuel, .slice A l.length cap] 24)).heap.size) (by simp))
  have t1 : ((progCheck fuel l).1 == 0) = false := by rw [beq_eq_false_iff_ne]; exact hne
  clear hC hne
  generalize progCheck fuel l = pc at *
  generalize pc.1 = p1 at *
  go_enter Tryz.func9, Tryz.ntmps9
  go_wp2_with (go_at_call 26; with_reducible (refine (kc _ HC.out).mono ?_); rintro _ w2 ⟨rfl, hb⟩; have HB := Lib.hid hb; clear hb)
  go_ret2
  exact ⟨rfl, grow_to ((Below.refl _ _).alloc (Nat.le_refl _) _) HB.out⟩

set_option maxHeartbeats 1000000 in
theorem new_good {fuel : Nat} {A : Option Addr} {l : List Ins} {cap : Nat} (w : World) (hC : CodeIn w w.heap.size A l) (hne : (progCheck fuel l).1 = 0) :
    Calls Tryz.prog 9 #[.agg #[.int .i64 (fuel : Nat), .slice A l.length cap]] w fun e w' => ∃ g cs, e = .returned (.tuple #[.pointer (some ⟨g, 0, none⟩), .int .i64 0]) ∧ w.heap.size ≤ g ∧ Mw w' g cs (.slice none 0 0) (.slice none 0 0) (newM fuel l) ∧ Below w.heap.size w w' := by
  have kc := fun W (hW : CodeIn W W.heap.size A l) => check_any fuel A l cap W hW
  have HC0 := Lib.hid hC
  have HC := Lib.hid ((hC.keep ((Below.refl _ _).alloc (Nat.le_refl _) (.cells #[.int .i64 (fuel : Nat), .slice A l.length cap] 24))).more (B' := (w.alloc (.cells #[.int .i64 (fuel : Nat), .slice A l.length cap] 24)).heap.size) (by simp))
  obtain ⟨hf, hl, hok⟩ := progCheck_ok hne
  have hl0 : 0 < l.length := by omega
  have kn := fun W (hW : CodeIn W W.heap.size A l) => clone_ins (cap := cap) W hW hl0 hl.2
  rw [hne] at kc
  have HX0 := Lib.hid (Cells.new w 24 #[.int .i64 (fuel : Nat), .slice A l.length cap])
  have HB0 := Lib.hid ((Below.refl w.heap.size w).alloc (Nat.le_refl _) (.cells #[.int .i64 (fuel : Nat), .slice A l.length cap] 24))
  clear hC hne hf hl hok hl0
  generalize (progCheck fuel l).2 = p2 at *
  go_enter Tryz.func9, Tryz.ntmps9
  go_wp2_with (first | (go_at_call 26; with_reducible (refine (kc _ HC.out).mono ?_); rintro _ w2 ⟨rfl, hb⟩; have HB := Lib.hid hb; have HX2 := Lib.hid (Cells.keep HX0.out hb); have HBB := Lib.hid (grow_to HB0.out hb); have c1 : w2.cell? ⟨w.heap.size, 1, none⟩ = some (.slice A l.length cap) := HX2.out.cell (j := 1) rfl; have HC2 := Lib.hid ((HC0.out.keep HBB.out).more HBB.out.size); clear hb) | (go_at_call 27; refine (kn _ HC2.out).mono ?_; rintro _ w3 ⟨v3, rfl, ho3, hb3⟩; have HO3 := Lib.hid ho3; have HB3 := Lib.hid hb3; have HX3 := Lib.hid (Cells.keep HX2.out hb3); have d0 : w3.cell? ⟨w.heap.size, 0, none⟩ = some (.int .i64 (fuel : Nat)) := HX3.out.cell (j := 0) rfl; have d1 : w3.cell? ⟨w.heap.size, 1, none⟩ = some (.slice A l.length cap) := HX3.out.cell (j := 1) rfl; have f1 := HX3.out.fz 1; obtain ⟨A3, cap3, rfl⟩ := own_slice ho3; clear ho3 hb3))
  go_ret2
  have hset : Turns [w.heap.size] w3 (w3.setCell ⟨w.heap.size, 1, none⟩ (.slice A3 l.length cap3)) := (Turns.refl _ _).set (.inl (by simp)) _
  have hsz : w.heap.size < w2.heap.size := HX2.out.lt
  have hrow := (row_turns HO3.out hset (fun k hk => by have := (HO3.out.lt k hk).1; simp; omega)).mono (Nat.zero_le _)
  have hb3 := grow_to HBB.out HB3.out
  have hbs : Below w.heap.size w (w3.setCell ⟨w.heap.size, 1, none⟩ (.slice A3 l.length cap3)) := hb3.setCell (Nat.le_refl _) _
  refine ⟨w3.heap.size, .slice A3 l.length cap3, rfl, hb3.size, ?_, ?_⟩
  · first
      | exact ⟨Cells.newAt _ _ _ _ (by simp [World.setCell]), hrow.alloc _, World.ownsRow_nil _ _ _ _, World.ownsRow_nil _ _ _ _⟩
  · first
      | exact hbs.alloc hbs.size _
end Go.Proofs.YtjloiclbknfomaaGreatDoor
