/- The document's machine in memory, its reckons (contracts). -/
import Derived.Test.YtjloiclbknfomaaGreatDoorKr5
import Derived.Test.YtjloiclbknfomaaGreatDoorBw
import Derived.Test.YtjloiclbknfomaaGreatDoorKy
import Derived.Test.YtjloiclbknfomaaGreatDoorNumAdd
import Derived.Test.YtjloiclbknfomaaGreatDoorNumMul
import Derived.Test.YtjloiclbknfomaaGreatDoorNumDiv
import Derived.Test.YtjloiclbknfomaaGreatDoorNumFloor
import Derived.Test.YtjloiclbknfomaaGreatDoorNumInt
import Derived.StillTailTactics
set_option maxRecDepth 100000
namespace Go.Proofs.YtjloiclbknfomaaGreatDoor
open Go.RowKit Ieee

/-- the document's machine: its block and its rows -/
structure Rw (w : World) (g : Nat) (cs nv pv : Value) (m : Mach) : Prop where
  cells : Cells w g 63 (m.cells cs nv pv)
  code : w.ownsRow 0 77 6 cs m.code.length (m.code.flatMap Ins.cells)
  nums : w.ownsRow 0 25 1 nv m.nums.length (m.nums.map U)
  places : w.ownsRow 0 3 1 pv m.places.length (m.places.map I)
section
variable {w w' : World} {g : Nat} {cs nv pv : Value} {m : Mach}
theorem Rw.lt (h : Rw w g cs nv pv m) : g < w.heap.size := h.cells.lt
theorem Rw.turns {S : List Nat} (h : Rw w g cs nv pv m) (ht : Turns S w w') (hg : g ∉ S) (hc : ∀ k, cs.ownBlock = some k → k ∉ S) (hn : ∀ k, nv.ownBlock = some k → k ∉ S) (hp : ∀ k, pv.ownBlock = some k → k ∉ S) : Rw w' g cs nv pv m :=
  ⟨h.cells.turns ht hg, row_turns h.code ht hc, row_turns h.nums ht hn, row_turns h.places ht hp⟩
theorem Rw.keep (h : Rw w g cs nv pv m) (hb : Below w.heap.size w w') : Rw w' g cs nv pv m := h.turns (Turns.of_below (S := []) hb) (by simp) (by simp) (by simp) (by simp)
theorem Rw.alloc (h : Rw w g cs nv pv m) (o : Obj) : Rw (w.alloc o) g cs nv pv m := h.keep ((Below.refl _ _).alloc (Nat.le_refl _) o)
theorem Rw.drewN (h : Rw w g cs nv pv m) (n : Nat) : Rw (w.drewN n) g cs nv pv m := ⟨h.cells, h.code, h.nums, h.places⟩
theorem Rw.drew (h : Rw w g cs nv pv m) : Rw w.drew g cs nv pv m := ⟨h.cells, h.code, h.nums, h.places⟩
theorem Rw.block {m' : Mach} (h : Rw w g cs nv pv m) (ht : Turns [g] w w') (hc : Cells w' g 63 (m'.cells cs nv pv)) (h1 : m'.code = m.code) (h2 : m'.nums = m.nums) (h3 : m'.places = m.places) : Rw w' g cs nv pv m' := by
  have a := own_ne_block h.code h.cells (by decide)
  have b := own_ne_block h.nums h.cells (by decide)
  have c := own_ne_block h.places h.cells (by decide)
  refine ⟨hc, ?_, ?_, ?_⟩
  · rw [h1]; exact row_turns h.code ht fun k hk => by simpa using a k hk
  · rw [h2]; exact row_turns h.nums ht fun k hk => by simpa using b k hk
  · rw [h3]; exact row_turns h.places ht fun k hk => by simpa using c k hk
theorem Rw.far (h : Rw w g cs nv pv m) {x : Addr} (hx : ∀ k, (k = g ∨ cs.ownBlock = some k ∨ nv.ownBlock = some k ∨ pv.ownBlock = some k) → k ≠ x.block) (u : Value) : Rw (w.setCell x u) g cs nv pv m :=
  h.turns (S := [x.block]) ((Turns.refl _ _).set (.inl (by simp)) u) (by simpa using hx g (.inl rfl)) (fun k hk => by simpa using hx k (.inr (.inl hk))) (fun k hk => by simpa using hx k (.inr (.inr (.inl hk)))) (fun k hk => by simpa using hx k (.inr (.inr (.inr hk))))
theorem Rw.other (h : Rw w g cs nv pv m) {b : Nat} {t : TypeId} {c : Array Value} (hb : Cells w b t c) (h1 : t ≠ 63) (h2 : t ≠ 77) (h3 : t ≠ 25) (h4 : t ≠ 3) : ∀ k, (k = g ∨ cs.ownBlock = some k ∨ nv.ownBlock = some k ∨ pv.ownBlock = some k) → k ≠ b := by
  intro k hk
  rcases hk with rfl | hk | hk | hk
  · exact block_ne h.cells hb (Ne.symm h1)
  · exact own_ne_block h.code hb (Ne.symm h2) k hk
  · exact own_ne_block h.nums hb (Ne.symm h3) k hk
  · exact own_ne_block h.places hb (Ne.symm h4) k hk
end
theorem rOwn_not {w : World} {g b : Nat} {cs nv pv : Value} {m : Mach} {t : TypeId} {c : Array Value} (hM : Rw w g cs nv pv m) (hb : Cells w b t c) (h1 : t ≠ 63) (h3 : t ≠ 25) (h4 : t ≠ 3) : b ∉ mOwn g nv pv := by
  intro hm
  unfold mOwn at hm
  rcases List.mem_cons.1 hm with rfl | hm
  · exact block_ne hM.cells hb (Ne.symm h1) rfl
  rcases List.mem_append.1 hm with hm | hm
  · cases hn : nv.ownBlock with
    | none => simp [hn] at hm
    | some k =>
      simp [hn] at hm
      exact own_ne_block hM.nums hb (Ne.symm h3) k hn hm.symm
  · cases hn : pv.ownBlock with
    | none => simp [hn] at hm
    | some k =>
      simp [hn] at hm
      exact own_ne_block hM.places hb (Ne.symm h4) k hn hm.symm
theorem rcode_read {w : World} {g : Nat} {cs nv pv : Value} {m : Mach} (hM : Rw w g cs nv pv m) {x : Ins} (hx : m.code[m.at_]? = some x) : ∃ b cap, cs = .slice (some ⟨b, 0, none⟩) m.code.length cap ∧ b < w.heap.size ∧ InsAt w b (m.at_ * 6) x := by
  obtain ⟨A, cap, hcs⟩ := own_slice hM.code
  have h := hM.code
  rw [hcs] at h
  obtain ⟨b, hA, _, hb, hi⟩ := code_at h hx
  subst hA
  exact ⟨b, cap, hcs, hb, hi⟩

theorem rreg_stored {w : World} {g a v : Nat} {cs nv pv : Value} {m : Mach} (h : Rw w g cs nv pv m) (ha : a < 8) (hr : m.regs.length = 8) : Rw (w.setCell ⟨g, 4 + a, none⟩ (.int .u64 (v : Nat))) g cs nv pv { m with regs := m.regs.set a v } ∧ Turns [g] w (w.setCell ⟨g, 4 + a, none⟩ (.int .u64 (v : Nat))) := by
  have ht : Turns [g] w (w.setCell ⟨g, 4 + a, none⟩ (.int .u64 (v : Nat))) := (Turns.refl _ _).set (.inl (by simp)) _
  refine ⟨h.block ht ?_ rfl rfl rfl, ht⟩
  rw [cells_set m cs nv pv a v ha hr]
  exact h.cells.set (4 + a) _

theorem rpushed {wq W4 : World} {g : Nat} {cs nv pv : Value} {m : Mach} {r g' cap' : Nat} (h : Rw wq g cs nv pv m) (ho : W4.ownsRow 0 25 1 (.slice (some ⟨g', 0, none⟩) (m.nums.length + 1) cap') (m.nums.length + 1) (m.nums.map U ++ [.int .u64 (r : Nat)])) (hgr : wq.grownBy W4 nv.ownBlock) :
    Rw (W4.setCell ⟨g, 12, none⟩ (.slice (some ⟨g', 0, none⟩) (m.nums.length + 1) cap')) g cs (.slice (some ⟨g', 0, none⟩) (m.nums.length + 1) cap') pv { m with nums := m.nums ++ [r] } ∧ Turns (mOwn g nv pv) wq (W4.setCell ⟨g, 12, none⟩ (.slice (some ⟨g', 0, none⟩) (m.nums.length + 1) cap')) := by
  have hc := cells_grown hgr h.nums h.cells (by decide)
  have ht : Turns (mOwn g nv pv) wq W4 := grown_turns hgr fun k hk => mOwn_n hk
  have hts : Turns [g] W4 (W4.setCell ⟨g, 12, none⟩ (.slice (some ⟨g', 0, none⟩) (m.nums.length + 1) cap')) := (Turns.refl _ _).set (.inl (by simp)) _
  have a := own_ne_block h.code h.cells (by decide)
  have b := own_ne_block h.places h.cells (by decide)
  have c := own_ne_own h.nums h.code (by decide)
  have d := own_ne_own h.nums h.places (by decide)
  have hx : (m.nums.map U ++ [.int .u64 (r : Nat)]) = (m.nums ++ [r]).map U := by simp [U]
  rw [hx] at ho
  refine ⟨⟨hc.set 12 _, ?_, ?_, ?_⟩, ht.trans (hts.mono fun x hx => .inl (mOwn_only g nv pv hx))⟩
  · refine row_turns (h.code.kept hgr ?_) hts fun k hk => by simpa using a k hk
    cases hk : cs.ownBlock with
    | none => exact .inl rfl
    | some k => exact .inr fun e => c k k e.symm hk rfl
  · have hne := own_ne_block ho hc (by decide)
    have := row_turns ho hts fun k hk => by simpa using hne k hk
    simpa using this
  · refine row_turns (h.places.kept hgr ?_) hts fun k hk => by simpa using b k hk
    cases hk : pv.ownBlock with
    | none => exact .inl rfl
    | some k => exact .inr fun e => d k k e.symm hk rfl
theorem rpopped {w : World} {g : Nat} {cs pv : Value} {m : Mach} {A : Option Addr} {n cap a : Nat} (h : Rw w g cs (.slice A (n + 1) cap) pv m) (hn : m.nums.length = n + 1) (ha : a < 8) (hr : m.regs.length = 8) :
    Rw ((w.setCell ⟨g, 4 + a, none⟩ (.int .u64 (m.nums.getLastD 0 : Nat))).setCell ⟨g, 12, none⟩ (.slice A n cap)) g cs (.slice A n cap) pv { m with regs := m.regs.set a (m.nums.getLastD 0), nums := m.nums.dropLast } ∧ Turns (mOwn g (.slice A (n + 1) cap) pv) w ((w.setCell ⟨g, 4 + a, none⟩ (.int .u64 (m.nums.getLastD 0 : Nat))).setCell ⟨g, 12, none⟩ (.slice A n cap)) := by
  obtain ⟨h1, t1⟩ := rreg_stored (v := m.nums.getLastD 0) h ha hr
  have hts : Turns [g] (w.setCell ⟨g, 4 + a, none⟩ (.int .u64 (m.nums.getLastD 0 : Nat))) ((w.setCell ⟨g, 4 + a, none⟩ (.int .u64 (m.nums.getLastD 0 : Nat))).setCell ⟨g, 12, none⟩ (.slice A n cap)) := (Turns.refl _ _).set (.inl (by simp)) _
  have x1 := own_ne_block h1.code h1.cells (by decide)
  have x2 := own_ne_block h1.nums h1.cells (by decide)
  have x3 := own_ne_block h1.places h1.cells (by decide)
  refine ⟨⟨h1.cells.set 12 _, row_turns h1.code hts fun k hk => by simpa using x1 k hk, ?_, row_turns h1.places hts fun k hk => by simpa using x3 k hk⟩, (t1.trans hts).mono fun x hx => .inl (mOwn_only _ _ _ hx)⟩
  have hrow := h1.nums
  simp only [hn] at hrow
  obtain ⟨b, rfl, _, _, hp⟩ := own_pop hrow
  have hd : (m.nums.map U).take n = m.nums.dropLast.map U := by
    rw [List.dropLast_eq_take, hn, ← List.map_take]
    simp
  rw [hd] at hp
  have hl : m.nums.dropLast.length = n := by simp [hn]
  have := row_turns hp hts fun k hk => by simpa using x2 k hk
  simpa only [hl] using this

theorem rplaced {wq W4 : World} {g : Nat} {cs nv pv v' : Value} {m : Mach} {r : Nat} (h : Rw wq g cs nv pv m) (ho : W4.ownsRow 0 3 1 v' (m.places.length + 1) (m.places.map I ++ [.int .i64 (r : Nat)])) (hgr : wq.grownBy W4 pv.ownBlock) :
    Rw (W4.setCell ⟨g, 13, none⟩ v') g cs nv v' { m with places := m.places ++ [r] } ∧ Turns (mOwn g nv pv) wq (W4.setCell ⟨g, 13, none⟩ v') := by
  have hc := cells_grown hgr h.places h.cells (by decide)
  have ht : Turns (mOwn g nv pv) wq W4 := grown_turns hgr fun k hk => mOwn_p hk
  have hts : Turns [g] W4 (W4.setCell ⟨g, 13, none⟩ v') := (Turns.refl _ _).set (.inl (by simp)) _
  have a := own_ne_block h.code h.cells (by decide)
  have b := own_ne_block h.nums h.cells (by decide)
  have c := own_ne_own h.places h.code (by decide)
  have d := own_ne_own h.places h.nums (by decide)
  have hx : (m.places.map I ++ [.int .i64 (r : Nat)]) = (m.places ++ [r]).map I := by simp [I]
  rw [hx] at ho
  refine ⟨⟨hc.set 13 _, ?_, ?_, ?_⟩, ht.trans (hts.mono fun x hx => .inl (mOwn_only g nv pv hx))⟩
  · refine row_turns (h.code.kept hgr ?_) hts fun k hk => by simpa using a k hk
    cases hk : cs.ownBlock with
    | none => exact .inl rfl
    | some k => exact .inr fun e => c k k e.symm hk rfl
  · refine row_turns (h.nums.kept hgr ?_) hts fun k hk => by simpa using b k hk
    cases hk : nv.ownBlock with
    | none => exact .inl rfl
    | some k => exact .inr fun e => d k k e.symm hk rfl
  · have hne := own_ne_block ho hc (by decide)
    have := row_turns ho hts fun k hk => by simpa using hne k hk
    simpa using this
theorem runplaced {w : World} {g : Nat} {cs nv : Value} {m : Mach} {A : Option Addr} {n cap : Nat} (h1 : Rw w g cs nv (.slice A (n + 1) cap) m) (hn : m.places.length = n + 1) :
    Rw (w.setCell ⟨g, 13, none⟩ (.slice A n cap)) g cs nv (.slice A n cap) { m with places := m.places.dropLast } ∧ Turns (mOwn g nv (.slice A (n + 1) cap)) w (w.setCell ⟨g, 13, none⟩ (.slice A n cap)) := by
  have hts : Turns [g] w (w.setCell ⟨g, 13, none⟩ (.slice A n cap)) := (Turns.refl _ _).set (.inl (by simp)) _
  have x1 := own_ne_block h1.code h1.cells (by decide)
  have x2 := own_ne_block h1.nums h1.cells (by decide)
  have x3 := own_ne_block h1.places h1.cells (by decide)
  refine ⟨⟨h1.cells.set 13 _, row_turns h1.code hts fun k hk => by simpa using x1 k hk, row_turns h1.nums hts fun k hk => by simpa using x2 k hk, ?_⟩, hts.mono fun x hx => .inl (mOwn_only _ _ _ hx)⟩
  have hrow := h1.places
  simp only [hn] at hrow
  obtain ⟨b, rfl, _, _, hp⟩ := own_pop hrow
  have hd : (m.places.map I).take n = m.places.dropLast.map I := by
    rw [List.dropLast_eq_take, hn, ← List.map_take]
    simp
  rw [hd] at hp
  have hl : m.places.dropLast.length = n := by simp [hn]
  have := row_turns hp hts fun k hk => by simpa using x3 k hk
  simpa only [hl] using this

theorem Rw.grown {w w' : World} {g base size n : Nat} {t : TypeId} {cs nv pv v : Value} {m : Mach} {xs : List Value} (hM : Rw w g cs nv pv m) (h : w.ownsRow base t size v n xs) (hg : w.grownBy w' v.ownBlock) (h1 : t ≠ 63) (h2 : t ≠ 77) (h3 : t ≠ 25) (h4 : t ≠ 3) : Rw w' g cs nv pv m := by
  have key : ∀ k, v.ownBlock = some k → ∃ cur, Cells w k t cur := fun k hk => own_block_type h hk
  refine hM.turns (S := match v.ownBlock with | some k => [k] | none => []) ⟨hg.os, hg.tape, hg.output, hg.size, fun k hk hn => hg.block k hk fun e => hn (by rw [← e]; simp)⟩ ?_ ?_ ?_ ?_
  · cases hv : v.ownBlock with
    | none => simp
    | some k =>
      obtain ⟨cur, hc⟩ := key k hv
      have := block_ne hM.cells hc (Ne.symm h1)
      simpa using this
  all_goals
    intro j hj
    cases hv : v.ownBlock with
    | none => simp
    | some k =>
      obtain ⟨cur, hc⟩ := key k hv
      have := hM.other hc h1 h2 h3 h4 j (by simp [hj])
      simpa using this

theorem order_small (a b : Nat) : -2 ≤ rOrder a b ∧ rOrder a b ≤ 2 := by
  unfold rOrder
  repeat (first | omega | split)
theorem rreckons_2 {b c : Nat} (hb : Can b) (hc : Can c) (w : World) : Calls Tryz.prog 31 #[.int .i64 2, .int .u64 (b : Nat), .int .u64 (c : Nat)] w fun e w' => e = .returned (.int .u64 (reckonM 2 b c : Nat)) ∧ Below w.heap.size w w' := by
  have hv : reckonM 2 b c = b := by simp [reckonM, hb.2]
  rw [hv]
  go_enter Tryz.func31, Tryz.ntmps31
  go_wp2
  go_ret
  exact ⟨rfl, Below.refl _ _⟩
theorem rreckons_3 {b c : Nat} (hb : Can b) (hc : Can c) (w : World) : Calls Tryz.prog 31 #[.int .i64 3, .int .u64 (b : Nat), .int .u64 (c : Nat)] w fun e w' => e = .returned (.int .u64 (reckonM 3 b c : Nat)) ∧ Below w.heap.size w w' := by
  have hv : reckonM 3 b c = fadd b c := by simp [reckonM]
  rw [hv]
  have kc := radd_any hb.1 hc.1 w
  generalize fadd b c = r at *
  go_enter Tryz.func31, Tryz.ntmps31
  go_wp2_with (go_at_call 40; with_reducible (refine kc.mono ?_); rintro _ w2 ⟨rfl, hb2⟩)
  go_ret
  skip
  exact ⟨rfl, hb2⟩
theorem rreckons_4 {b c : Nat} (hb : Can b) (hc : Can c) (w : World) : Calls Tryz.prog 31 #[.int .i64 4, .int .u64 (b : Nat), .int .u64 (c : Nat)] w fun e w' => e = .returned (.int .u64 (reckonM 4 b c : Nat)) ∧ Below w.heap.size w w' := by
  have hv : reckonM 4 b c = fsub b c := by simp [reckonM]
  rw [hv]
  have kc := rsub_any hb.1 hc.1 w
  generalize fsub b c = r at *
  go_enter Tryz.func31, Tryz.ntmps31
  go_wp2_with (go_at_call 41; with_reducible (refine kc.mono ?_); rintro _ w2 ⟨rfl, hb2⟩)
  go_ret
  skip
  exact ⟨rfl, hb2⟩
theorem rreckons_5 {b c : Nat} (hb : Can b) (hc : Can c) (w : World) : Calls Tryz.prog 31 #[.int .i64 5, .int .u64 (b : Nat), .int .u64 (c : Nat)] w fun e w' => e = .returned (.int .u64 (reckonM 5 b c : Nat)) ∧ Below w.heap.size w w' := by
  have hv : reckonM 5 b c = fmul b c := by simp [reckonM]
  rw [hv]
  have kc := rmul_any hb.1 hc.1 w
  generalize fmul b c = r at *
  go_enter Tryz.func31, Tryz.ntmps31
  go_wp2_with (go_at_call 42; with_reducible (refine kc.mono ?_); rintro _ w2 ⟨rfl, hb2⟩)
  go_ret
  skip
  exact ⟨rfl, hb2⟩
theorem rreckons_6 {b c : Nat} (hb : Can b) (hc : Can c) (w : World) : Calls Tryz.prog 31 #[.int .i64 6, .int .u64 (b : Nat), .int .u64 (c : Nat)] w fun e w' => e = .returned (.int .u64 (reckonM 6 b c : Nat)) ∧ Below w.heap.size w w' := by
  have hv : reckonM 6 b c = fdiv b c := by simp [reckonM]
  rw [hv]
  have kc := rdiv_any hb.1 hc.1 w
  generalize fdiv b c = r at *
  go_enter Tryz.func31, Tryz.ntmps31
  go_wp2_with (go_at_call 43; with_reducible (refine kc.mono ?_); rintro _ w2 ⟨rfl, hb2⟩)
  go_ret
  skip
  exact ⟨rfl, hb2⟩
theorem rreckons_7 {b c : Nat} (hb : Can b) (hc : Can c) (w : World) : Calls Tryz.prog 31 #[.int .i64 7, .int .u64 (b : Nat), .int .u64 (c : Nat)] w fun e w' => e = .returned (.int .u64 (reckonM 7 b c : Nat)) ∧ Below w.heap.size w w' := by
  have hv : reckonM 7 b c = fmin b c := by simp [reckonM]
  rw [hv]
  rw [fmin_eq hb.1 hc.1]
  have kc := rmin_any hb.1 hc.1 w
  generalize rMin b c = r at *
  go_enter Tryz.func31, Tryz.ntmps31
  go_wp2_with (go_at_call 44; with_reducible (refine kc.mono ?_); rintro _ w2 ⟨rfl, hb2⟩)
  go_ret
  obtain ⟨_, rfl⟩ := hb2
  exact ⟨rfl, below_drewN (Below.refl _ _) _⟩
theorem rreckons_8 {b c : Nat} (hb : Can b) (hc : Can c) (w : World) : Calls Tryz.prog 31 #[.int .i64 8, .int .u64 (b : Nat), .int .u64 (c : Nat)] w fun e w' => e = .returned (.int .u64 (reckonM 8 b c : Nat)) ∧ Below w.heap.size w w' := by
  have hv : reckonM 8 b c = fmax b c := by simp [reckonM]
  rw [hv]
  rw [fmax_eq hb.1 hc.1]
  have kc := rmax_any hb.1 hc.1 w
  generalize rMax b c = r at *
  go_enter Tryz.func31, Tryz.ntmps31
  go_wp2_with (go_at_call 45; with_reducible (refine kc.mono ?_); rintro _ w2 ⟨rfl, hb2⟩)
  go_ret
  obtain ⟨_, rfl⟩ := hb2
  exact ⟨rfl, below_drewN (Below.refl _ _) _⟩
theorem rreckons_11 {b c : Nat} (hb : Can b) (hc : Can c) (w : World) : Calls Tryz.prog 31 #[.int .i64 11, .int .u64 (b : Nat), .int .u64 (c : Nat)] w fun e w' => e = .returned (.int .u64 (reckonM 11 b c : Nat)) ∧ Below w.heap.size w w' := by
  have hv : reckonM 11 b c = fneg b := by simp [reckonM]
  rw [hv]
  have kc := rneg_any hb.1 w
  generalize fneg b = r at *
  go_enter Tryz.func31, Tryz.ntmps31
  go_wp2_with (go_at_call 49; with_reducible (refine kc.mono ?_); rintro _ w2 ⟨rfl, hb2⟩)
  go_ret
  obtain ⟨_, rfl⟩ := hb2
  exact ⟨rfl, below_drewN (Below.refl _ _) _⟩
theorem rreckons_12 {b c : Nat} (hb : Can b) (hc : Can c) (w : World) : Calls Tryz.prog 31 #[.int .i64 12, .int .u64 (b : Nat), .int .u64 (c : Nat)] w fun e w' => e = .returned (.int .u64 (reckonM 12 b c : Nat)) ∧ Below w.heap.size w w' := by
  have hv : reckonM 12 b c = fabs b := by simp [reckonM]
  rw [hv]
  have kc := rabs_any hb.1 w
  generalize fabs b = r at *
  go_enter Tryz.func31, Tryz.ntmps31
  go_wp2_with (go_at_call 50; with_reducible (refine kc.mono ?_); rintro _ w2 ⟨rfl, hb2⟩)
  go_ret
  obtain ⟨_, rfl⟩ := hb2
  exact ⟨rfl, below_drewN (Below.refl _ _) _⟩
theorem rreckons_13 {b c : Nat} (hb : Can b) (hc : Can c) (w : World) : Calls Tryz.prog 31 #[.int .i64 13, .int .u64 (b : Nat), .int .u64 (c : Nat)] w fun e w' => e = .returned (.int .u64 (reckonM 13 b c : Nat)) ∧ Below w.heap.size w w' := by
  have hv : reckonM 13 b c = ffloor b := by simp [reckonM]
  rw [hv]
  have kc := rfloor_any hb.1 w
  generalize ffloor b = r at *
  go_enter Tryz.func31, Tryz.ntmps31
  go_wp2_with (go_at_call 51; with_reducible (refine kc.mono ?_); rintro _ w2 ⟨rfl, hb2⟩)
  go_ret
  skip
  exact ⟨rfl, hb2⟩
theorem rreckons_9 {b c : Nat} (hb : Can b) (hc : Can c) (w : World) : Calls Tryz.prog 31 #[.int .i64 9, .int .u64 (b : Nat), .int .u64 (c : Nat)] w fun e w' => e = .returned (.int .u64 (reckonM 9 b c : Nat)) ∧ Below w.heap.size w w' := by
  have hv : reckonM 9 b c = if rLess b c = true then 4607182418800017408 else 0 := by
    simp only [reckonM, fless_eq hb.1 hc.1]
    have h1 : fof 1 = 4607182418800017408 := by decide +kernel
    rw [h1]
    rfl
  rw [hv]
  have kc := rless_any hb.1 hc.1 w
  clear hv
  cases hl : rLess b c
  all_goals
    rw [hl] at kc
    go_enter Tryz.func31, Tryz.ntmps31
    go_wp2_with (go_at_call 46; with_reducible (refine kc.mono ?_); rintro _ w2 ⟨rfl, n2, rfl⟩)
    go_ret
    exact ⟨by first | rfl | simp, below_drewN (Below.refl _ _) _⟩
theorem rreckons_10 {b c : Nat} (hb : Can b) (hc : Can c) (w : World) : Calls Tryz.prog 31 #[.int .i64 10, .int .u64 (b : Nat), .int .u64 (c : Nat)] w fun e w' => e = .returned (.int .u64 (reckonM 10 b c : Nat)) ∧ Below w.heap.size w w' := by
  have hv : reckonM 10 b c = fof (rOrder b c) := by simp [reckonM, forder_eq hb.1 hc.1]
  rw [hv]
  have kc := rorder_any hb.1 hc.1 w
  have hr : -9223372036854775808 ≤ rOrder b c ∧ rOrder b c ≤ 9223372036854775807 := by
    have h := order_small b c
    omega
  have ko := fun W => rof_any hr.1 hr.2 W
  clear hv
  obtain ⟨q, hq⟩ : ∃ q, fof (rOrder b c) = q := ⟨_, rfl⟩
  rw [hq] at ko ⊢
  clear hq hr
  generalize rOrder b c = z at *
  go_enter Tryz.func31, Tryz.ntmps31
  go_wp2_with (first | (go_at_call 48; with_reducible (refine kc.mono ?_); rintro _ w2 ⟨rfl, n2, rfl⟩) | (go_at_call 47; with_reducible (refine (ko _).mono ?_); rintro _ w3 ⟨rfl, hb3⟩))
  go_ret
  exact ⟨rfl, (below_drewN (Below.refl _ _) n2).trans (hb3.mono (Nat.le_refl _))⟩
theorem rreckons_any {op : Int} {b c : Nat} (h2 : 2 ≤ op) (h13 : op ≤ 13) (hb : Can b) (hc : Can c) (w : World) : Calls Tryz.prog 31 #[.int .i64 op, .int .u64 (b : Nat), .int .u64 (c : Nat)] w fun e w' => e = .returned (.int .u64 (reckonM op b c : Nat)) ∧ Below w.heap.size w w' := by
  have h : op = 2 ∨ op = 3 ∨ op = 4 ∨ op = 5 ∨ op = 6 ∨ op = 7 ∨ op = 8 ∨ op = 9 ∨ op = 10 ∨ op = 11 ∨ op = 12 ∨ op = 13 := by omega
  rcases h with rfl | rfl | rfl | rfl | rfl | rfl | rfl | rfl | rfl | rfl | rfl | rfl
  · exact rreckons_2 hb hc w
  · exact rreckons_3 hb hc w
  · exact rreckons_4 hb hc w
  · exact rreckons_5 hb hc w
  · exact rreckons_6 hb hc w
  · exact rreckons_7 hb hc w
  · exact rreckons_8 hb hc w
  · exact rreckons_9 hb hc w
  · exact rreckons_10 hb hc w
  · exact rreckons_11 hb hc w
  · exact rreckons_12 hb hc w
  · exact rreckons_13 hb hc w
end Go.Proofs.YtjloiclbknfomaaGreatDoor
