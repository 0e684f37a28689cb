/- (*interp.Machine).Step: one instruction (contract): what its deferred function catches. -/
import Derived.Test.YtjloiclbknfomaaGreatDoorKs
set_option maxRecDepth 100000
namespace Go.Proofs.YtjloiclbknfomaaGreatDoor
open Go.RowKit Ieee

theorem mOwn_not {w : World} {g b : Nat} {cs nv pv : Value} {m : Mach} {t : TypeId} {c : Array Value} (hM : Mw w g cs nv pv m) (hb : Cells w b t c) (h1 : t ≠ 61) (h3 : t ≠ 25) (h4 : t ≠ 3) : b ∉ mOwn g nv pv := by
  intro hm
  unfold mOwn at hm
  rcases List.mem_cons.1 hm with rfl | hm
  · exact block_ne hM.cells hb (Ne.symm h1) rfl
  rcases List.mem_append.1 hm with hm | hm
  · cases hn : nv.ownBlock with
    | none => simp [hn] at hm
    | some k =>
      simp [hn] at hm
      exact own_ne_block hM.nums hb (Ne.symm h3) k hn hm.symm
  · cases hn : pv.ownBlock with
    | none => simp [hn] at hm
    | some k =>
      simp [hn] at hm
      exact own_ne_block hM.places hb (Ne.symm h4) k hn hm.symm
theorem mOwn_anew {w : World} {g : Nat} {nv nv' pv pv' : Value} (h1 : Anew w nv nv') (h2 : Anew w pv pv') : ∀ x ∈ mOwn g nv' pv', x ∈ mOwn g nv pv ∨ w.heap.size ≤ x := by
  intro x hx
  unfold mOwn at hx
  rcases List.mem_cons.1 hx with rfl | hx
  · exact .inl (mOwn_g _ _ _)
  rcases List.mem_append.1 hx with hx | hx
  · cases hn : nv'.ownBlock with
    | none => simp [hn] at hx
    | some k =>
      simp [hn] at hx
      subst hx
      rcases h1 with h1 | ⟨k', hk', hl⟩
      · exact .inl (mOwn_n (h1 ▸ hn))
      · rw [hn] at hk'
        injection hk' with hk'
        exact .inr (hk' ▸ hl)
  · cases hn : pv'.ownBlock with
    | none => simp [hn] at hx
    | some k =>
      simp [hn] at hx
      subst hx
      rcases h2 with h2 | ⟨k', hk', hl⟩
      · exact .inl (mOwn_p (h2 ▸ hn))
      · rw [hn] at hk'
        injection hk' with hk'
        exact .inr (hk' ▸ hl)
theorem Anew.later {w w' : World} {v v' : Value} (h : Anew w' v v') (hs : w.heap.size ≤ w'.heap.size) : Anew w v v' := h.imp id fun ⟨k, hk, hl⟩ => ⟨k, hk, Nat.le_trans hs hl⟩

theorem trap_yes (c : Int) (w : World) : (Instr.typeAssert (.iface 84 (.agg #[.int .i64 c])) 20 84 true).run Tryz.prog w = .ok (.tuple #[.agg #[.int .i64 c], .bool true]) w := by kernel_rfl
theorem trap_no (w : World) : (Instr.typeAssert .nilIface 20 84 true).run Tryz.prog w = .ok (.tuple #[.agg #[.int .i64 0], .bool false]) w := by kernel_rfl

set_option maxHeartbeats 1000000 in
theorem catch_panicking {B1 B0 g : Nat} {cs nv pv : Value} {m : Mach} {av : Array Value} (c : Int) (older : List PanicEntry) (w : World) (k0 : Value) (s0 : Value) (hA : Cells w B1 56 #[k0, s0]) (hB : Cells w B0 38 #[.pointer (some ⟨g, 0, none⟩)]) (hM : Cells w g 61 (m.cells cs nv pv)) :
    CallsD Tryz.prog 34 #[.pointer (some ⟨B1, 0, none⟩), .pointer (some ⟨B0, 0, none⟩)] (.panicking ({ v := .iface 84 (.agg #[.int .i64 c]), recovered := false } :: older)) w fun x u' w' =>
      u' = .panicking ({ v := .iface 84 (.agg #[.int .i64 c]), recovered := true } :: older) ∧ x = .returned (.tuple #[]) ∧ Cells w' g 61 ((endM m c).cells cs nv pv) ∧ Cells w' B1 56 #[.int .i64 0, .string ⟨#[]⟩] ∧ Turns [g, B1] w w' := by
  have a0 := hA.cell (j := 0) rfl
  have a1 := hA.cell (j := 1) rfl
  have a0f := hA.fz 0
  have a1f := hA.fz 1
  have b0 := hB.cell (j := 0) rfl
  have l1 := hA.lt
  have l0 := hB.lt
  have hta := trap_yes c
  have HA := Lib.hid hA
  have HM := Lib.hid hM
  have n1 : g ≠ B1 := block_ne hM hA (by decide)
  have n2 : B0 ≠ B1 := block_ne hB hA (by decide)
  clear hA hB hM
  refine callsD_recover Tryz.func34 rfl rfl (fun a => rfl) ?_
  simp only [Tryz.ntmps34, List.size_toArray, List.length_cons, List.length_nil, Nat.reduceAdd, Nat.reduceSub, Array.replicate_succ, Array.replicate_zero, List.push_toArray, List.append_toArray, List.nil_append, List.cons_append, thrown, Act.put, List.setIfInBounds_toArray, List.set_cons_zero, List.set_cons_succ]
  go_upto_region 3 with (fail)
  have HA2 := Lib.hid (show Cells ((w.setCell ⟨B1, 0, none⟩ (.int .i64 0)).setCell ⟨B1, 1, none⟩ (.string ⟨#[]⟩)) B1 56 #[.int .i64 0, .string ⟨#[]⟩] from (HA.out.set 0 (.int .i64 0)).set 1 (.string ⟨#[]⟩))
  have HM2 := Lib.hid ((HM.out.far (a := ⟨B1, 0, none⟩) n1 (.int .i64 0)).far (a := ⟨B1, 1, none⟩) n1 (.string ⟨#[]⟩))
  have HB2 : ((w.setCell ⟨B1, 0, none⟩ (.int .i64 0)).setCell ⟨B1, 1, none⟩ (.string ⟨#[]⟩)).cell? ⟨B0, 0, none⟩ = some (.pointer (some ⟨g, 0, none⟩)) := (World.cell?_setCell_other _ _ _ _ (by first | (simp; done) | (simp; omega))).trans ((World.cell?_setCell_other _ _ _ _ (by first | (simp; done) | (simp; omega))).trans b0)
  have HT2 := Lib.hid (show Turns [g, B1] w ((w.setCell ⟨B1, 0, none⟩ (.int .i64 0)).setCell ⟨B1, 1, none⟩ (.string ⟨#[]⟩)) from ((Turns.refl _ _).set (.inl (by simp)) _).set (.inl (by simp)) _)
  have hsz : ((w.setCell ⟨B1, 0, none⟩ (.int .i64 0)).setCell ⟨B1, 1, none⟩ (.string ⟨#[]⟩)).heap.size = w.heap.size := by simp [World.setCell]
  generalize (w.setCell ⟨B1, 0, none⟩ (.int .i64 0)).setCell ⟨B1, 1, none⟩ (.string ⟨#[]⟩) = w2 at *
  have HM3 := Lib.hid (HM2.out.alloc (.cells #[.int .i64 c] 84))
  have HA3 := Lib.hid (HA2.out.alloc (.cells #[.int .i64 c] 84))
  have HT3 := Lib.hid (HT2.out.alloc (.cells #[.int .i64 c] 84))
  have b3 : (w2.alloc (.cells #[.int .i64 c] 84)).cell? ⟨B0, 0, none⟩ = some (.pointer (some ⟨g, 0, none⟩)) := (World.cell?_alloc_some w2 _ _ (by rw [HB2]; rfl)).trans HB2
  have t3 : (w2.alloc (.cells #[.int .i64 c] 84)).cell? ⟨w.heap.size, 0, none⟩ = some (.int .i64 c) := (Cells.newAt w2 84 #[.int .i64 c] w.heap.size hsz.symm).cell (j := 0) rfl
  generalize w2.alloc (.cells #[.int .i64 c] 84) = w3 at *
  have HE := end_any HM3.out c
  go_wp2_with (go_at_call 35; with_reducible (refine HE.mono ?_); rintro _ w4 ⟨rfl, hc4, ht4⟩; have HC4 := Lib.hid hc4; have HT4 := Lib.hid ht4; clear hc4 ht4)
  go_end0
  exact ⟨rfl, HC4.out, HA3.out.turns HT4.out (by simp; omega), HT3.out.trans (HT4.out.mono fun x hx => .inl (by simp at hx ⊢; exact .inl hx))⟩

set_option maxHeartbeats 400000 in
theorem catch_returning (f0 r0 : Value) (w : World) :
    CallsD Tryz.prog 34 #[f0, r0] .returning w fun x u' w' => u' = .returning ∧ x = .returned (.tuple #[]) ∧ w' = w.alloc (.cells #[.int .i64 0] 84) := by
  have hta := trap_no
  refine callsD_recover Tryz.func34 rfl rfl (fun a => rfl) ?_
  simp only [Tryz.ntmps34, List.size_toArray, List.length_cons, List.length_nil, Nat.reduceAdd, Nat.reduceSub, Array.replicate_succ, Array.replicate_zero, List.push_toArray, List.append_toArray, List.nil_append, List.cons_append, thrown, Act.put, List.setIfInBounds_toArray, List.set_cons_zero, List.set_cons_succ]
  go_wp2
  go_end0
  exact ⟨rfl, rfl⟩

theorem Turns.trans' {a b c : World} {S S' : List Nat} (h : Turns S a b) (k : Turns S' b c) (hS : ∀ x ∈ S', x ∈ S ∨ a.heap.size ≤ x) : Turns S a c :=
  ⟨k.os.trans h.os, k.tape.trans h.tape, k.output.trans h.output, Nat.le_trans h.size k.size, fun i hi hn => (k.block i (Nat.lt_of_lt_of_le hi h.size) (fun hm => (hS i hm).elim hn (fun hl => by omega))).trans (h.block i hi hn)⟩

set_option maxHeartbeats 1000000 in
theorem step_over {w : World} {g : Nat} {cs nv pv : Value} {m : Mach} (hM : Mw w g cs nv pv m) (ho : m.over = true) :
    Calls Tryz.prog 20 #[.pointer (some ⟨g, 0, none⟩)] w fun e w' => e = .returned (.tuple #[.agg #[.int .i64 0, .string ⟨#[]⟩], .int .i64 60]) ∧ Below w.heap.size w w' := by
  have c16 : w.cell? ⟨g, 16, none⟩ = some (.bool true) := ho ▸ hM.cells.cell (j := 16) rfl
  have hlt := hM.lt
  clear hM ho
  go_enter_defers Tryz.func20, Tryz.ntmps20
  go_wp2
  simp [bodyPostD, Leaves, results, Tryz.results20, go_sem]
  first
    | exact ((Below.refl _ _).alloc (Nat.le_refl _) _).alloc (by simp) _
    | exact (((((Below.refl _ _).alloc (Nat.le_refl _) _).alloc (by simp) _).setCell (by simp) _).setCell (by simp) _)

/-- the code's cell, read through the machine -/
theorem code_read {w : World} {g : Nat} {cs nv pv : Value} {m : Mach} (hM : Mw w g cs nv pv m) {x : Ins} (hx : m.code[m.at_]? = some x) : ∃ b cap, cs = .slice (some ⟨b, 0, none⟩) m.code.length cap ∧ b < w.heap.size ∧ InsAt w b (m.at_ * 6) x := by
  obtain ⟨A, cap, hcs⟩ := own_slice hM.code
  have h := hM.code
  rw [hcs] at h
  obtain ⟨b, hA, _, hb, hi⟩ := code_at h hx
  subst hA
  exact ⟨b, cap, hcs, hb, hi⟩

theorem Mw.blockA {w w' : World} {g b : Nat} {cs nv pv : Value} {m m' : Mach} {c : Array Value} (h : Mw w g cs nv pv m) (ht : Turns [g, b] w w') (hb : Cells w b 56 c) (hc : Cells w' g 61 (m'.cells cs nv pv)) (h1 : m'.code = m.code) (h2 : m'.nums = m.nums) (h3 : m'.places = m.places) : Mw w' g cs nv pv m' := by
  have o := h.other hb (by decide) (by decide) (by decide) (by decide)
  have a := own_ne_block h.code h.cells (by decide)
  have b' := own_ne_block h.nums h.cells (by decide)
  have c' := own_ne_block h.places h.cells (by decide)
  refine ⟨hc, ?_, ?_, ?_⟩
  · rw [h1]; exact row_turns h.code ht fun k hk => by simp; exact ⟨a k hk, o k (.inr (.inl hk))⟩
  · rw [h2]; exact row_turns h.nums ht fun k hk => by simp; exact ⟨b' k hk, o k (.inr (.inr (.inl hk)))⟩
  · rw [h3]; exact row_turns h.places ht fun k hk => by simp; exact ⟨c' k hk, o k (.inr (.inr (.inr hk)))⟩
theorem turns_join {w w5 w6 : World} {S : List Nat} {g b : Nat} (h1 : Turns S w w5) (h2 : Turns [g, b] w5 w6) (hg : g ∈ S) (hb : w.heap.size ≤ b) : Turns S w w6 :=
  ((h1.mono (S' := b :: S) fun x hx => .inl (by simp [hx])).trans (h2.mono fun x hx => .inl (by simp at hx ⊢; rcases hx with rfl | rfl; exact .inr hg; exact .inl rfl))).mono fun x hx => by
    rcases List.mem_cons.1 hx with rfl | hx
    · exact .inr hb
    · exact .inl hx

set_option maxRecDepth 100000 in
set_option maxHeartbeats 4000000 in
theorem step_dotrap {w : World} {g : Nat} {cs nv pv : Value} {m : Mach} (hM : Mw w g cs nv pv m) (hF : m.Fit) (hG : m.Goes) (ho : m.over = false) (hT : ∀ wz, Turns (mOwn g nv pv) w wz → TabsAt wz) {x : Ins} (hxe : m.code.getD m.at_ default = x) {y : Mach × Int × Int} (hy : doM { m with done := m.done + 1 } x = y) (hc0 : y.2.2 ≠ 0) :
    Calls Tryz.prog 20 #[.pointer (some ⟨g, 0, none⟩)] w fun e w' => e = .returned (.tuple #[.agg #[.int .i64 0, .string ⟨#[]⟩], .int .i64 0]) ∧ ∃ nv' pv', Anew w nv nv' ∧ Anew w pv pv' ∧ Mw w' g cs nv' pv' (endM y.1 y.2.2) ∧ Turns (mOwn g nv pv) w w' := by
  obtain ⟨g1, g2⟩ := hG ho
  obtain ⟨hx, hxo, hxk⟩ := code_get hF g1
  rw [hxe] at hx hxo hxk
  obtain ⟨bc, cap, rfl, hbc, hi⟩ := code_read hM hx
  have c16 : w.cell? ⟨g, 16, none⟩ = some (.bool false) := ho ▸ hM.cells.cell (j := 16) rfl
  have hlt := hM.lt
  have HM0 := Lib.hid hM
  have HXE := Lib.hid hxe
  have HXO := Lib.hid hxo
  have HXK := Lib.hid hxk
  have HT := Lib.hid hT
  have HG := Lib.hid (And.intro g1 g2)
  have HF := Lib.hid hF
  have HI := Lib.hid hi
  have i0 : (0 : Int) ≤ m.at_ := by omega
  have i1 : (m.at_ : Int) < m.code.length := by omega
  have hwr : wrap64 ((m.done : Int) + 1) = (m.done : Int) + 1 := by have := hF.fuel.2; unfold wrap64; omega
  have hmf : ∀ (fn : Fn) (first cap : Array Value) (w : World), (Instr.makeFunc fn first cap).run Tryz.prog w = .ok (.func fn first cap) w := fun _ _ _ _ => rfl
  clear hM hF hG hT hx hxe hxo hxk hi ho g1 g2
  go_enter_defers Tryz.func20, Tryz.ntmps20
  go_upto_region 4 with (fail)
  have HP := Lib.hid ((Cells.new w 38 #[.pointer (some ⟨g, 0, none⟩)]).alloc (.cells #[.int .i64 0, .string ⟨#[]⟩] 56))
  have HA := Lib.hid (Cells.newAt (w.alloc (.cells #[.pointer (some ⟨g, 0, none⟩)] 38)) 56 #[.int .i64 0, .string ⟨#[]⟩] (w.heap.size + 1) (by simp))
  have HB := Lib.hid (((Below.refl w.heap.size w).alloc (Nat.le_refl _) (.cells #[.pointer (some ⟨g, 0, none⟩)] 38)).alloc (by simp) (.cells #[.int .i64 0, .string ⟨#[]⟩] 56))
  generalize (w.alloc (.cells #[.pointer (some ⟨g, 0, none⟩)] 38)).alloc (.cells #[.int .i64 0, .string ⟨#[]⟩] 56) = w2 at *
  have HM := Lib.hid (Mw.keep HM0.out HB.out)
  have HI2 := Lib.hid (HI.out.keep (HB.out) hbc)
  have s0 : w2.cell? ⟨w.heap.size, 0, none⟩ = some (.pointer (some ⟨g, 0, none⟩)) := HP.out.cell (j := 0) rfl
  have s1 : w2.cell? ⟨g, 1, none⟩ = some (.slice (some ⟨bc, 0, none⟩) m.code.length cap) := HM.out.cells.cell (j := 1) rfl
  have s2 : w2.cell? ⟨g, 2, none⟩ = some (.int .i64 (m.at_ : Nat)) := HM.out.cells.cell (j := 2) rfl
  have hS0 : w2.cell? ⟨w.heap.size, 0, none⟩ = some (.pointer (some ⟨g, 0, none⟩)) ∧ w2.cell? ⟨g, 1, none⟩ = some (.slice (some ⟨bc, 0, none⟩) m.code.length cap) ∧ w2.cell? ⟨g, 2, none⟩ = some (.int .i64 (m.at_ : Nat)) ∧ w2.cell? ⟨bc, m.at_ * 6, none⟩ = some (.int .i64 x.op) ∧ w2.cell? ⟨bc, m.at_ * 6 + 1, none⟩ = some (.int .i64 x.a) ∧ w2.cell? ⟨bc, m.at_ * 6 + 2, none⟩ = some (.int .i64 x.b) ∧ w2.cell? ⟨bc, m.at_ * 6 + 3, none⟩ = some (.int .i64 x.c) ∧ w2.cell? ⟨bc, m.at_ * 6 + 4, none⟩ = some (.int .i64 x.n) ∧ w2.cell? ⟨bc, m.at_ * 6 + 5, none⟩ = some (.int .u64 (x.k : Nat)) := ⟨s0, s1, s2, HI2.out.1, HI2.out.2.1, HI2.out.2.2.1, HI2.out.2.2.2.1, HI2.out.2.2.2.2.1, HI2.out.2.2.2.2.2⟩
  have hSa : ∀ Z, (w2.alloc Z).cell? ⟨w.heap.size, 0, none⟩ = some (.pointer (some ⟨g, 0, none⟩)) ∧ (w2.alloc Z).cell? ⟨g, 1, none⟩ = some (.slice (some ⟨bc, 0, none⟩) m.code.length cap) ∧ (w2.alloc Z).cell? ⟨g, 2, none⟩ = some (.int .i64 (m.at_ : Nat)) ∧ (w2.alloc Z).cell? ⟨bc, m.at_ * 6, none⟩ = some (.int .i64 x.op) ∧ (w2.alloc Z).cell? ⟨bc, m.at_ * 6 + 1, none⟩ = some (.int .i64 x.a) ∧ (w2.alloc Z).cell? ⟨bc, m.at_ * 6 + 2, none⟩ = some (.int .i64 x.b) ∧ (w2.alloc Z).cell? ⟨bc, m.at_ * 6 + 3, none⟩ = some (.int .i64 x.c) ∧ (w2.alloc Z).cell? ⟨bc, m.at_ * 6 + 4, none⟩ = some (.int .i64 x.n) ∧ (w2.alloc Z).cell? ⟨bc, m.at_ * 6 + 5, none⟩ = some (.int .u64 (x.k : Nat)) := fun Z =>
    have q := fun (a : Addr) (v : Value) (h : w2.cell? a = some v) => (World.cell?_alloc_some w2 a Z (by rw [h]; rfl)).trans h
    ⟨q _ _ s0, q _ _ s1, q _ _ s2, q _ _ HI2.out.1, q _ _ HI2.out.2.1, q _ _ HI2.out.2.2.1, q _ _ HI2.out.2.2.2.1, q _ _ HI2.out.2.2.2.2.1, q _ _ HI2.out.2.2.2.2.2⟩
  refine wp_region_noPanic ?_
  refine wp_region_held_drew (S := fun w' => w'.cell? ⟨w.heap.size, 0, none⟩ = some (.pointer (some ⟨g, 0, none⟩)) ∧ w'.cell? ⟨g, 1, none⟩ = some (.slice (some ⟨bc, 0, none⟩) m.code.length cap) ∧ w'.cell? ⟨g, 2, none⟩ = some (.int .i64 (m.at_ : Nat)) ∧ w'.cell? ⟨bc, m.at_ * 6, none⟩ = some (.int .i64 x.op) ∧ w'.cell? ⟨bc, m.at_ * 6 + 1, none⟩ = some (.int .i64 x.a) ∧ w'.cell? ⟨bc, m.at_ * 6 + 2, none⟩ = some (.int .i64 x.b) ∧ w'.cell? ⟨bc, m.at_ * 6 + 3, none⟩ = some (.int .i64 x.c) ∧ w'.cell? ⟨bc, m.at_ * 6 + 4, none⟩ = some (.int .i64 x.n) ∧ w'.cell? ⟨bc, m.at_ * 6 + 5, none⟩ = some (.int .u64 (x.k : Nat))) (by kernel_rfl) hS0 (fun hS => ?_)
  refine wpAnyH_take (i := 0) (v := ?_) rfl (by kernel_rfl) (by kernel_rfl) (by kernel_rfl) (fun _ _ _ h => h) (Or.inl ⟨by rfl, ?_⟩) hS ?_
  rotate_left
  · (intro wx hSx; (try dsimp only at hSx); go_simp; (try with_reducible rfl))
  simp only [List.getElem_toArray, List.getElem_cons_zero, Act.put, List.setIfInBounds_toArray, List.set_cons_zero, List.set_cons_succ]
  refine wpAnyH_take (i := 1) (v := ?_) rfl (by kernel_rfl) (by kernel_rfl) (by kernel_rfl) (fun _ _ _ h => h) (Or.inl ⟨by rfl, ?_⟩) hS ?_
  rotate_left
  · (intro wx hSx; (try dsimp only at hSx); go_simp; (try with_reducible rfl))
  simp only [List.getElem_toArray, List.getElem_cons_succ, List.getElem_cons_zero, Act.put, List.setIfInBounds_toArray, List.set_cons_zero, List.set_cons_succ]
  refine wpAnyH_take (i := 2) (v := ?_) rfl (by kernel_rfl) (by kernel_rfl) (by kernel_rfl) (fun _ _ _ h => h) (Or.inl ⟨by rfl, ?_⟩) hS ?_
  rotate_left
  · (intro wx hSx; (try dsimp only at hSx); go_simp; (try with_reducible rfl))
  simp only [List.getElem_toArray, List.getElem_cons_succ, List.getElem_cons_zero, Act.put, List.setIfInBounds_toArray, List.set_cons_zero, List.set_cons_succ]
  refine wpAnyH_take (i := 3) (v := ?_) rfl (by kernel_rfl) (by kernel_rfl) (by kernel_rfl) (fun _ _ _ h => h) (Or.inl ⟨by rfl, ?_⟩) hS ?_
  rotate_left
  · (intro wx hSx; (try dsimp only at hSx); go_simp; (try with_reducible rfl))
  simp only [List.getElem_toArray, List.getElem_cons_succ, List.getElem_cons_zero, Act.put, List.setIfInBounds_toArray, List.set_cons_zero, List.set_cons_succ]
  refine wpAnyH_take (i := 4) (v := ?_) rfl (by kernel_rfl) (by kernel_rfl) (by kernel_rfl) (fun _ _ _ h => h) (Or.inl ⟨by rfl, ?_⟩) hS ?_
  rotate_left
  · (intro wx hSx; (try dsimp only at hSx); go_simp; (try with_reducible rfl))
  simp only [List.getElem_toArray, List.getElem_cons_succ, List.getElem_cons_zero, Act.put, List.setIfInBounds_toArray, List.set_cons_zero, List.set_cons_succ]
  refine wpAnyH_take (i := 5) (v := ?_) rfl (by kernel_rfl) (by kernel_rfl) (by kernel_rfl) (fun _ _ _ h => h) (Or.inl ⟨by rfl, ?_⟩) hS ?_
  rotate_left
  · (intro wx hSx; (try dsimp only at hSx); go_simp; (try with_reducible rfl))
  simp only [List.getElem_toArray, List.getElem_cons_succ, List.getElem_cons_zero, Act.put, List.setIfInBounds_toArray, List.set_cons_zero, List.set_cons_succ]
  refine wpAnyH_take (i := 6) (v := ?_) rfl (by kernel_rfl) (by kernel_rfl) (by kernel_rfl) (fun _ _ _ h => h) (Or.inl ⟨by rfl, ?_⟩) hS ?_
  rotate_left
  · (intro wx hSx; (try dsimp only at hSx); go_simp; (try with_reducible rfl))
  simp only [List.getElem_toArray, List.getElem_cons_succ, List.getElem_cons_zero, Act.put, List.setIfInBounds_toArray, List.set_cons_zero, List.set_cons_succ]
  refine wpAnyH_take (i := 7) (v := ?_) rfl (by kernel_rfl) (by kernel_rfl) (by kernel_rfl) (fun _ _ _ h => h) (Or.inl ⟨by rfl, ?_⟩) hS ?_
  rotate_left
  · (intro wx hSx; (try dsimp only at hSx); go_simp; (try with_reducible rfl))
  simp only [List.getElem_toArray, List.getElem_cons_succ, List.getElem_cons_zero, Act.put, List.setIfInBounds_toArray, List.set_cons_zero, List.set_cons_succ]
  refine wpAnyH_take (i := 8) (v := ?_) rfl (by kernel_rfl) (by kernel_rfl) (by kernel_rfl) (fun _ _ _ h => h) (Or.inl ⟨by rfl, ?_⟩) hS ?_
  rotate_left
  · (intro wx hSx; (try dsimp only at hSx); go_simp; (try with_reducible rfl))
  simp only [List.getElem_toArray, List.getElem_cons_succ, List.getElem_cons_zero, Act.put, List.setIfInBounds_toArray, List.set_cons_zero, List.set_cons_succ]
  refine wpAnyH_take (i := 9) (v := ?_) rfl (by kernel_rfl) (by kernel_rfl) (by kernel_rfl) (fun _ _ _ h => h) (Or.inl ⟨by rfl, ?_⟩) hS ?_
  rotate_left
  · (intro wx hSx; (try dsimp only at hSx); go_simp; (try with_reducible rfl))
  simp only [List.getElem_toArray, List.getElem_cons_succ, List.getElem_cons_zero, Act.put, List.setIfInBounds_toArray, List.set_cons_zero, List.set_cons_succ]
  refine wpAnyH_take (i := 10) (v := ?_) rfl (by kernel_rfl) (by kernel_rfl) (by kernel_rfl) (fun _ _ _ h => h) (Or.inl ⟨by rfl, ?_⟩) hS ?_
  rotate_left
  · (intro wx hSx; (try dsimp only at hSx); go_simp; (try with_reducible rfl))
  simp only [List.getElem_toArray, List.getElem_cons_succ, List.getElem_cons_zero, Act.put, List.setIfInBounds_toArray, List.set_cons_zero, List.set_cons_succ]
  refine wpAnyH_ready (rs := [11]) (by kernel_rfl) (by simp) ?_
  refine AllReadyH.cons rfl (fun K hK => ?_) AllReadyH.nil
  go_simp
  refine hK.out _ _ (by first | with_reducible exact hS | with_reducible exact hSa _ | exact hSa _) (fun hS => ?_)
  clear hK K
  try simp only [Act.put, List.setIfInBounds_toArray, List.set_cons_zero, List.set_cons_succ]
  refine wpAnyH_ready (rs := [12]) (by kernel_rfl) (by simp) ?_
  refine AllReadyH.cons rfl (fun K hK => ?_) AllReadyH.nil
  go_simp
  refine hK.out _ _ (by first | with_reducible exact hS | with_reducible exact hSa _ | exact hSa _) (fun hS => ?_)
  clear hK K
  try simp only [Act.put, List.setIfInBounds_toArray, List.set_cons_zero, List.set_cons_succ]
  refine wpAnyH_done (by kernel_rfl) ?_ _
  refine NoPanic.normal ?_
  clear hS0 hSa s0 s1 s2 hS
  try change Exit.then _ _ Exit.normal _ (w2.alloc (.cells #[.int .i64 x.op, .int .i64 x.a, .int .i64 x.b, .int .i64 x.c, .int .i64 x.n, .int .u64 (x.k : Nat)] 77)).drew
  have HX3 := Lib.hid (show Cells (w2.alloc (.cells #[.int .i64 x.op, .int .i64 x.a, .int .i64 x.b, .int .i64 x.c, .int .i64 x.n, .int .u64 (x.k : Nat)] 77)).drew w2.heap.size 77 #[.int .i64 x.op, .int .i64 x.a, .int .i64 x.b, .int .i64 x.c, .int .i64 x.n, .int .u64 (x.k : Nat)] from (Cells.new w2 _ _).drew)
  have HP3 := Lib.hid (show Cells (w2.alloc (.cells #[.int .i64 x.op, .int .i64 x.a, .int .i64 x.b, .int .i64 x.c, .int .i64 x.n, .int .u64 (x.k : Nat)] 77)).drew w.heap.size 38 _ from (HP.out.alloc _).drew)
  have HA3 := Lib.hid (show Cells (w2.alloc (.cells #[.int .i64 x.op, .int .i64 x.a, .int .i64 x.b, .int .i64 x.c, .int .i64 x.n, .int .u64 (x.k : Nat)] 77)).drew (w.heap.size + 1) 56 _ from (HA.out.alloc _).drew)
  have HM3 := Lib.hid (show Mw (w2.alloc (.cells #[.int .i64 x.op, .int .i64 x.a, .int .i64 x.b, .int .i64 x.c, .int .i64 x.n, .int .u64 (x.k : Nat)] 77)).drew g _ nv pv m from (HM.out.alloc _).drew)
  have HB3 := Lib.hid (show Below w.heap.size w (w2.alloc (.cells #[.int .i64 x.op, .int .i64 x.a, .int .i64 x.b, .int .i64 x.c, .int .i64 x.n, .int .u64 (x.k : Nat)] 77)).drew from (HB.out.alloc HB.out.size _).drew)
  have hl2 : w.heap.size + 1 < w2.heap.size := HA.out.lt
  clear HP HA HM HB HI HI2 c16
  generalize (w2.alloc (.cells #[.int .i64 x.op, .int .i64 x.a, .int .i64 x.b, .int .i64 x.c, .int .i64 x.n, .int .u64 (x.k : Nat)] 77)).drew = w3 at *
  generalize w2.heap.size = B2 at *
  have s0 : w3.cell? ⟨w.heap.size, 0, none⟩ = some (.pointer (some ⟨g, 0, none⟩)) := HP3.out.cell (j := 0) rfl
  have s3 : w3.cell? ⟨g, 3, none⟩ = some (.int .i64 (m.done : Nat)) := HM3.out.cells.cell (j := 3) rfl
  have s3f := HM3.out.cells.fz 3
  go_upto_region 6 with (fail)
  have HTa : Turns [g] w3 (w3.setCell ⟨g, 3, none⟩ (.int .i64 ((m.done : Int) + 1))) := (Turns.refl _ _).set (.inl (by simp)) _
  have HM4 := Lib.hid (show Mw (w3.setCell ⟨g, 3, none⟩ (.int .i64 ((m.done : Int) + 1))) g _ nv pv { m with done := m.done + 1 } from HM3.out.block HTa (HM3.out.cells.set 3 (.int .i64 ((m.done : Int) + 1))) rfl rfl rfl)
  have hgx : g ≠ B2 := block_ne HM3.out.cells HX3.out (by decide)
  have hga : g ≠ w.heap.size + 1 := by omega
  have hgp : g ≠ w.heap.size := by omega
  have HX4 := Lib.hid (HX3.out.far (a := ⟨g, 3, none⟩) (Ne.symm hgx) (.int .i64 ((m.done : Int) + 1)))
  have HP4 := Lib.hid (HP3.out.far (a := ⟨g, 3, none⟩) (Ne.symm hgp) (.int .i64 ((m.done : Int) + 1)))
  have HA4 := Lib.hid (HA3.out.far (a := ⟨g, 3, none⟩) (Ne.symm hga) (.int .i64 ((m.done : Int) + 1)))
  have HT4 := Lib.hid ((Turns.of_below (S := mOwn g nv pv) HB3.out).trans (turns_g HTa))
  clear HX3 HP3 HA3 HM3 HB3 HTa s0 s3 s3f
  generalize w3.setCell ⟨g, 3, none⟩ (.int .i64 ((m.done : Int) + 1)) = w4 at *
  have s0 : w4.cell? ⟨w.heap.size, 0, none⟩ = some (.pointer (some ⟨g, 0, none⟩)) := HP4.out.cell (j := 0) rfl
  have x0 : w4.cell? ⟨B2, 0, none⟩ = some (.int .i64 x.op) := HX4.out.cell (j := 0) rfl
  have x1 : w4.cell? ⟨B2, 1, none⟩ = some (.int .i64 x.a) := HX4.out.cell (j := 1) rfl
  have x2 : w4.cell? ⟨B2, 2, none⟩ = some (.int .i64 x.b) := HX4.out.cell (j := 2) rfl
  have x3 : w4.cell? ⟨B2, 3, none⟩ = some (.int .i64 x.c) := HX4.out.cell (j := 3) rfl
  have x4 : w4.cell? ⟨B2, 4, none⟩ = some (.int .i64 x.n) := HX4.out.cell (j := 4) rfl
  have x5 : w4.cell? ⟨B2, 5, none⟩ = some (.int .u64 (x.k : Nat)) := HX4.out.cell (j := 5) rfl
  have HF4 : Hid (({ m with done := m.done + 1 } : Mach).Fit) := Lib.hid ⟨HF.out.fuel, HF.out.len, HF.out.code, HF.out.at_, HG.out.2, HF.out.rlen, HF.out.regs, HF.out.nlen, HF.out.nums, HF.out.plen, HF.out.places, HF.out.chunks, HF.out.pieces⟩
  have kd0 := do_any HM4.out HF4.out HXO.out (fun wz hz => HT.out wz (HT4.out.trans hz))
  unfold xval at kd0
  have KD := Lib.hid kd0
  clear kd0
  have hsay : doSays { m with done := m.done + 1 } x = .panicked (trapped y.2.2) := by
    unfold doSays
    rw [hy, if_neg hc0]
  rw [hsay, hy] at KD
  obtain ⟨c, hcc⟩ : ∃ c, y.2.2 = c := ⟨_, rfl⟩
  rw [hcc] at KD
  have HCC := Lib.hid hcc
  clear hsay hc0 hy hcc
  go_wp2_with (go_at_call 36; with_reducible (refine KD.out.mono ?_); rintro _ w5 ⟨rfl, nv5, hn5, hM5, hT5⟩)
  have HM5 := Lib.hid hM5
  have HT5 := Lib.hid hT5
  have HN5 := Lib.hid (hn5.later HT4.out.size)
  have HA5 := Lib.hid (HA4.out.turns hT5 (mOwn_not HM4.out HA4.out (by decide) (by decide) (by decide)))
  have HP5 := Lib.hid (HP4.out.turns hT5 (mOwn_not HM4.out HP4.out (by decide) (by decide) (by decide)))
  have HX5 := Lib.hid (HX4.out.turns hT5 (mOwn_not HM4.out HX4.out (by decide) (by decide) (by decide)))
  have HT05 := Lib.hid (HT4.out.trans hT5)
  clear hM5 hT5 hn5 s0 x0 x1 x2 x3 x4 x5
  refine leaves_cons (f := 34) (args := #[.pointer (some ⟨w.heap.size + 1, 0, none⟩), .pointer (some ⟨w.heap.size, 0, none⟩)]) (by simp) (by simp [go_sem]) ?_
  refine (catch_panicking (av := #[]) c [] w5 _ _ HA5.out HP5.out HM5.out.cells).mono ?_
  rintro x6 u' w6 ⟨rfl, rfl, hC6, hA6, hT6⟩
  have HC6 := Lib.hid hC6
  have HT6 := Lib.hid hT6
  have a0 := hA6.cell (j := 0) rfl
  have a1 := hA6.cell (j := 1) rfl
  clear hC6 hT6 hA6
  simp [Leaves, settle, results, Tryz.results20, go_sem, a0, a1]
  exact ⟨nv5, HN5.out, pv, Anew.refl _ _, (by rw [HCC.out]; exact HM5.out.blockA HT6.out HA5.out HC6.out rfl rfl rfl), turns_join HT05.out HT6.out (mOwn_g _ _ _) (by omega)⟩

set_option maxRecDepth 100000 in
set_option maxHeartbeats 4000000 in
theorem step_ok {w : World} {g : Nat} {cs nv pv : Value} {m : Mach} (hM : Mw w g cs nv pv m) (hF : m.Fit) (hG : m.Goes) (ho : m.over = false) (hT : ∀ wz, Turns (mOwn g nv pv) w wz → TabsAt wz) {x : Ins} (hxe : m.code.getD m.at_ default = x) {y : Mach × Int × Int} (hy : doM { m with done := m.done + 1 } x = y) (hc0 : y.2.2 = 0) {q : Mach × Nat × Int} (hq : jumpM y.1 x = q) (hc1 : q.2.2 = 0) :
    Calls Tryz.prog 20 #[.pointer (some ⟨g, 0, none⟩)] w fun e w' => e = .returned (.tuple #[.agg #[.int .i64 y.2.1, .string ⟨(toldM { m with done := m.done + 1 } x y.2.1).toArray⟩], .int .i64 0]) ∧ ∃ nv' pv', Anew w nv nv' ∧ Anew w pv pv' ∧ Mw w' g cs nv' pv' (nextM { q.1 with at_ := q.2.1 } x) ∧ Turns (mOwn g nv pv) w w' := by
  have HY := Lib.hid hy
  have HC0 := Lib.hid hc0
  have HQ := Lib.hid hq
  have HC1 := Lib.hid hc1
  clear hy hc0 hq hc1
  obtain ⟨g1, g2⟩ := hG ho
  obtain ⟨hx, hxo, hxk⟩ := code_get hF g1
  rw [hxe] at hx hxo hxk
  obtain ⟨bc, cap, rfl, hbc, hi⟩ := code_read hM hx
  have c16 : w.cell? ⟨g, 16, none⟩ = some (.bool false) := ho ▸ hM.cells.cell (j := 16) rfl
  have hlt := hM.lt
  have HM0 := Lib.hid hM
  have HXE := Lib.hid hxe
  have HXO := Lib.hid hxo
  have HXK := Lib.hid hxk
  have HT := Lib.hid hT
  have HG := Lib.hid (And.intro g1 g2)
  have HF := Lib.hid hF
  have HI := Lib.hid hi
  have i0 : (0 : Int) ≤ m.at_ := by omega
  have i1 : (m.at_ : Int) < m.code.length := by omega
  have hwr : wrap64 ((m.done : Int) + 1) = (m.done : Int) + 1 := by have := hF.fuel.2; unfold wrap64; omega
  have hmf : ∀ (fn : Fn) (first cap : Array Value) (w : World), (Instr.makeFunc fn first cap).run Tryz.prog w = .ok (.func fn first cap) w := fun _ _ _ _ => rfl
  clear hM hF hG hT hx hxe hxo hxk hi ho g1 g2
  go_enter_defers Tryz.func20, Tryz.ntmps20
  go_upto_region 4 with (fail)
  have HP := Lib.hid ((Cells.new w 38 #[.pointer (some ⟨g, 0, none⟩)]).alloc (.cells #[.int .i64 0, .string ⟨#[]⟩] 56))
  have HA := Lib.hid (Cells.newAt (w.alloc (.cells #[.pointer (some ⟨g, 0, none⟩)] 38)) 56 #[.int .i64 0, .string ⟨#[]⟩] (w.heap.size + 1) (by simp))
  have HB := Lib.hid (((Below.refl w.heap.size w).alloc (Nat.le_refl _) (.cells #[.pointer (some ⟨g, 0, none⟩)] 38)).alloc (by simp) (.cells #[.int .i64 0, .string ⟨#[]⟩] 56))
  generalize (w.alloc (.cells #[.pointer (some ⟨g, 0, none⟩)] 38)).alloc (.cells #[.int .i64 0, .string ⟨#[]⟩] 56) = w2 at *
  have HM := Lib.hid (Mw.keep HM0.out HB.out)
  have HI2 := Lib.hid (HI.out.keep (HB.out) hbc)
  have s0 : w2.cell? ⟨w.heap.size, 0, none⟩ = some (.pointer (some ⟨g, 0, none⟩)) := HP.out.cell (j := 0) rfl
  have s1 : w2.cell? ⟨g, 1, none⟩ = some (.slice (some ⟨bc, 0, none⟩) m.code.length cap) := HM.out.cells.cell (j := 1) rfl
  have s2 : w2.cell? ⟨g, 2, none⟩ = some (.int .i64 (m.at_ : Nat)) := HM.out.cells.cell (j := 2) rfl
  have hS0 : w2.cell? ⟨w.heap.size, 0, none⟩ = some (.pointer (some ⟨g, 0, none⟩)) ∧ w2.cell? ⟨g, 1, none⟩ = some (.slice (some ⟨bc, 0, none⟩) m.code.length cap) ∧ w2.cell? ⟨g, 2, none⟩ = some (.int .i64 (m.at_ : Nat)) ∧ w2.cell? ⟨bc, m.at_ * 6, none⟩ = some (.int .i64 x.op) ∧ w2.cell? ⟨bc, m.at_ * 6 + 1, none⟩ = some (.int .i64 x.a) ∧ w2.cell? ⟨bc, m.at_ * 6 + 2, none⟩ = some (.int .i64 x.b) ∧ w2.cell? ⟨bc, m.at_ * 6 + 3, none⟩ = some (.int .i64 x.c) ∧ w2.cell? ⟨bc, m.at_ * 6 + 4, none⟩ = some (.int .i64 x.n) ∧ w2.cell? ⟨bc, m.at_ * 6 + 5, none⟩ = some (.int .u64 (x.k : Nat)) := ⟨s0, s1, s2, HI2.out.1, HI2.out.2.1, HI2.out.2.2.1, HI2.out.2.2.2.1, HI2.out.2.2.2.2.1, HI2.out.2.2.2.2.2⟩
  have hSa : ∀ Z, (w2.alloc Z).cell? ⟨w.heap.size, 0, none⟩ = some (.pointer (some ⟨g, 0, none⟩)) ∧ (w2.alloc Z).cell? ⟨g, 1, none⟩ = some (.slice (some ⟨bc, 0, none⟩) m.code.length cap) ∧ (w2.alloc Z).cell? ⟨g, 2, none⟩ = some (.int .i64 (m.at_ : Nat)) ∧ (w2.alloc Z).cell? ⟨bc, m.at_ * 6, none⟩ = some (.int .i64 x.op) ∧ (w2.alloc Z).cell? ⟨bc, m.at_ * 6 + 1, none⟩ = some (.int .i64 x.a) ∧ (w2.alloc Z).cell? ⟨bc, m.at_ * 6 + 2, none⟩ = some (.int .i64 x.b) ∧ (w2.alloc Z).cell? ⟨bc, m.at_ * 6 + 3, none⟩ = some (.int .i64 x.c) ∧ (w2.alloc Z).cell? ⟨bc, m.at_ * 6 + 4, none⟩ = some (.int .i64 x.n) ∧ (w2.alloc Z).cell? ⟨bc, m.at_ * 6 + 5, none⟩ = some (.int .u64 (x.k : Nat)) := fun Z =>
    have q := fun (a : Addr) (v : Value) (h : w2.cell? a = some v) => (World.cell?_alloc_some w2 a Z (by rw [h]; rfl)).trans h
    ⟨q _ _ s0, q _ _ s1, q _ _ s2, q _ _ HI2.out.1, q _ _ HI2.out.2.1, q _ _ HI2.out.2.2.1, q _ _ HI2.out.2.2.2.1, q _ _ HI2.out.2.2.2.2.1, q _ _ HI2.out.2.2.2.2.2⟩
  refine wp_region_noPanic ?_
  refine wp_region_held_drew (S := fun w' => w'.cell? ⟨w.heap.size, 0, none⟩ = some (.pointer (some ⟨g, 0, none⟩)) ∧ w'.cell? ⟨g, 1, none⟩ = some (.slice (some ⟨bc, 0, none⟩) m.code.length cap) ∧ w'.cell? ⟨g, 2, none⟩ = some (.int .i64 (m.at_ : Nat)) ∧ w'.cell? ⟨bc, m.at_ * 6, none⟩ = some (.int .i64 x.op) ∧ w'.cell? ⟨bc, m.at_ * 6 + 1, none⟩ = some (.int .i64 x.a) ∧ w'.cell? ⟨bc, m.at_ * 6 + 2, none⟩ = some (.int .i64 x.b) ∧ w'.cell? ⟨bc, m.at_ * 6 + 3, none⟩ = some (.int .i64 x.c) ∧ w'.cell? ⟨bc, m.at_ * 6 + 4, none⟩ = some (.int .i64 x.n) ∧ w'.cell? ⟨bc, m.at_ * 6 + 5, none⟩ = some (.int .u64 (x.k : Nat))) (by kernel_rfl) hS0 (fun hS => ?_)
  refine wpAnyH_take (i := 0) (v := ?_) rfl (by kernel_rfl) (by kernel_rfl) (by kernel_rfl) (fun _ _ _ h => h) (Or.inl ⟨by rfl, ?_⟩) hS ?_
  rotate_left
  · (intro wx hSx; (try dsimp only at hSx); go_simp; (try with_reducible rfl))
  simp only [List.getElem_toArray, List.getElem_cons_zero, Act.put, List.setIfInBounds_toArray, List.set_cons_zero, List.set_cons_succ]
  refine wpAnyH_take (i := 1) (v := ?_) rfl (by kernel_rfl) (by kernel_rfl) (by kernel_rfl) (fun _ _ _ h => h) (Or.inl ⟨by rfl, ?_⟩) hS ?_
  rotate_left
  · (intro wx hSx; (try dsimp only at hSx); go_simp; (try with_reducible rfl))
  simp only [List.getElem_toArray, List.getElem_cons_succ, List.getElem_cons_zero, Act.put, List.setIfInBounds_toArray, List.set_cons_zero, List.set_cons_succ]
  refine wpAnyH_take (i := 2) (v := ?_) rfl (by kernel_rfl) (by kernel_rfl) (by kernel_rfl) (fun _ _ _ h => h) (Or.inl ⟨by rfl, ?_⟩) hS ?_
  rotate_left
  · (intro wx hSx; (try dsimp only at hSx); go_simp; (try with_reducible rfl))
  simp only [List.getElem_toArray, List.getElem_cons_succ, List.getElem_cons_zero, Act.put, List.setIfInBounds_toArray, List.set_cons_zero, List.set_cons_succ]
  refine wpAnyH_take (i := 3) (v := ?_) rfl (by kernel_rfl) (by kernel_rfl) (by kernel_rfl) (fun _ _ _ h => h) (Or.inl ⟨by rfl, ?_⟩) hS ?_
  rotate_left
  · (intro wx hSx; (try dsimp only at hSx); go_simp; (try with_reducible rfl))
  simp only [List.getElem_toArray, List.getElem_cons_succ, List.getElem_cons_zero, Act.put, List.setIfInBounds_toArray, List.set_cons_zero, List.set_cons_succ]
  refine wpAnyH_take (i := 4) (v := ?_) rfl (by kernel_rfl) (by kernel_rfl) (by kernel_rfl) (fun _ _ _ h => h) (Or.inl ⟨by rfl, ?_⟩) hS ?_
  rotate_left
  · (intro wx hSx; (try dsimp only at hSx); go_simp; (try with_reducible rfl))
  simp only [List.getElem_toArray, List.getElem_cons_succ, List.getElem_cons_zero, Act.put, List.setIfInBounds_toArray, List.set_cons_zero, List.set_cons_succ]
  refine wpAnyH_take (i := 5) (v := ?_) rfl (by kernel_rfl) (by kernel_rfl) (by kernel_rfl) (fun _ _ _ h => h) (Or.inl ⟨by rfl, ?_⟩) hS ?_
  rotate_left
  · (intro wx hSx; (try dsimp only at hSx); go_simp; (try with_reducible rfl))
  simp only [List.getElem_toArray, List.getElem_cons_succ, List.getElem_cons_zero, Act.put, List.setIfInBounds_toArray, List.set_cons_zero, List.set_cons_succ]
  refine wpAnyH_take (i := 6) (v := ?_) rfl (by kernel_rfl) (by kernel_rfl) (by kernel_rfl) (fun _ _ _ h => h) (Or.inl ⟨by rfl, ?_⟩) hS ?_
  rotate_left
  · (intro wx hSx; (try dsimp only at hSx); go_simp; (try with_reducible rfl))
  simp only [List.getElem_toArray, List.getElem_cons_succ, List.getElem_cons_zero, Act.put, List.setIfInBounds_toArray, List.set_cons_zero, List.set_cons_succ]
  refine wpAnyH_take (i := 7) (v := ?_) rfl (by kernel_rfl) (by kernel_rfl) (by kernel_rfl) (fun _ _ _ h => h) (Or.inl ⟨by rfl, ?_⟩) hS ?_
  rotate_left
  · (intro wx hSx; (try dsimp only at hSx); go_simp; (try with_reducible rfl))
  simp only [List.getElem_toArray, List.getElem_cons_succ, List.getElem_cons_zero, Act.put, List.setIfInBounds_toArray, List.set_cons_zero, List.set_cons_succ]
  refine wpAnyH_take (i := 8) (v := ?_) rfl (by kernel_rfl) (by kernel_rfl) (by kernel_rfl) (fun _ _ _ h => h) (Or.inl ⟨by rfl, ?_⟩) hS ?_
  rotate_left
  · (intro wx hSx; (try dsimp only at hSx); go_simp; (try with_reducible rfl))
  simp only [List.getElem_toArray, List.getElem_cons_succ, List.getElem_cons_zero, Act.put, List.setIfInBounds_toArray, List.set_cons_zero, List.set_cons_succ]
  refine wpAnyH_take (i := 9) (v := ?_) rfl (by kernel_rfl) (by kernel_rfl) (by kernel_rfl) (fun _ _ _ h => h) (Or.inl ⟨by rfl, ?_⟩) hS ?_
  rotate_left
  · (intro wx hSx; (try dsimp only at hSx); go_simp; (try with_reducible rfl))
  simp only [List.getElem_toArray, List.getElem_cons_succ, List.getElem_cons_zero, Act.put, List.setIfInBounds_toArray, List.set_cons_zero, List.set_cons_succ]
  refine wpAnyH_take (i := 10) (v := ?_) rfl (by kernel_rfl) (by kernel_rfl) (by kernel_rfl) (fun _ _ _ h => h) (Or.inl ⟨by rfl, ?_⟩) hS ?_
  rotate_left
  · (intro wx hSx; (try dsimp only at hSx); go_simp; (try with_reducible rfl))
  simp only [List.getElem_toArray, List.getElem_cons_succ, List.getElem_cons_zero, Act.put, List.setIfInBounds_toArray, List.set_cons_zero, List.set_cons_succ]
  refine wpAnyH_ready (rs := [11]) (by kernel_rfl) (by simp) ?_
  refine AllReadyH.cons rfl (fun K hK => ?_) AllReadyH.nil
  go_simp
  refine hK.out _ _ (by first | with_reducible exact hS | with_reducible exact hSa _ | exact hSa _) (fun hS => ?_)
  clear hK K
  try simp only [Act.put, List.setIfInBounds_toArray, List.set_cons_zero, List.set_cons_succ]
  refine wpAnyH_ready (rs := [12]) (by kernel_rfl) (by simp) ?_
  refine AllReadyH.cons rfl (fun K hK => ?_) AllReadyH.nil
  go_simp
  refine hK.out _ _ (by first | with_reducible exact hS | with_reducible exact hSa _ | exact hSa _) (fun hS => ?_)
  clear hK K
  try simp only [Act.put, List.setIfInBounds_toArray, List.set_cons_zero, List.set_cons_succ]
  refine wpAnyH_done (by kernel_rfl) ?_ _
  refine NoPanic.normal ?_
  clear hS0 hSa s0 s1 s2 hS
  try change Exit.then _ _ Exit.normal _ (w2.alloc (.cells #[.int .i64 x.op, .int .i64 x.a, .int .i64 x.b, .int .i64 x.c, .int .i64 x.n, .int .u64 (x.k : Nat)] 77)).drew
  have HX3 := Lib.hid (show Cells (w2.alloc (.cells #[.int .i64 x.op, .int .i64 x.a, .int .i64 x.b, .int .i64 x.c, .int .i64 x.n, .int .u64 (x.k : Nat)] 77)).drew w2.heap.size 77 #[.int .i64 x.op, .int .i64 x.a, .int .i64 x.b, .int .i64 x.c, .int .i64 x.n, .int .u64 (x.k : Nat)] from (Cells.new w2 _ _).drew)
  have HP3 := Lib.hid (show Cells (w2.alloc (.cells #[.int .i64 x.op, .int .i64 x.a, .int .i64 x.b, .int .i64 x.c, .int .i64 x.n, .int .u64 (x.k : Nat)] 77)).drew w.heap.size 38 _ from (HP.out.alloc _).drew)
  have HA3 := Lib.hid (show Cells (w2.alloc (.cells #[.int .i64 x.op, .int .i64 x.a, .int .i64 x.b, .int .i64 x.c, .int .i64 x.n, .int .u64 (x.k : Nat)] 77)).drew (w.heap.size + 1) 56 _ from (HA.out.alloc _).drew)
  have HM3 := Lib.hid (show Mw (w2.alloc (.cells #[.int .i64 x.op, .int .i64 x.a, .int .i64 x.b, .int .i64 x.c, .int .i64 x.n, .int .u64 (x.k : Nat)] 77)).drew g _ nv pv m from (HM.out.alloc _).drew)
  have HB3 := Lib.hid (show Below w.heap.size w (w2.alloc (.cells #[.int .i64 x.op, .int .i64 x.a, .int .i64 x.b, .int .i64 x.c, .int .i64 x.n, .int .u64 (x.k : Nat)] 77)).drew from (HB.out.alloc HB.out.size _).drew)
  have hl2 : w.heap.size + 1 < w2.heap.size := HA.out.lt
  clear HP HA HM HB HI HI2 c16
  generalize (w2.alloc (.cells #[.int .i64 x.op, .int .i64 x.a, .int .i64 x.b, .int .i64 x.c, .int .i64 x.n, .int .u64 (x.k : Nat)] 77)).drew = w3 at *
  generalize w2.heap.size = B2 at *
  have s0 : w3.cell? ⟨w.heap.size, 0, none⟩ = some (.pointer (some ⟨g, 0, none⟩)) := HP3.out.cell (j := 0) rfl
  have s3 : w3.cell? ⟨g, 3, none⟩ = some (.int .i64 (m.done : Nat)) := HM3.out.cells.cell (j := 3) rfl
  have s3f := HM3.out.cells.fz 3
  go_upto_region 6 with (fail)
  have HTa : Turns [g] w3 (w3.setCell ⟨g, 3, none⟩ (.int .i64 ((m.done : Int) + 1))) := (Turns.refl _ _).set (.inl (by simp)) _
  have HM4 := Lib.hid (show Mw (w3.setCell ⟨g, 3, none⟩ (.int .i64 ((m.done : Int) + 1))) g _ nv pv { m with done := m.done + 1 } from HM3.out.block HTa (HM3.out.cells.set 3 (.int .i64 ((m.done : Int) + 1))) rfl rfl rfl)
  have hgx : g ≠ B2 := block_ne HM3.out.cells HX3.out (by decide)
  have hga : g ≠ w.heap.size + 1 := by omega
  have hgp : g ≠ w.heap.size := by omega
  have HX4 := Lib.hid (HX3.out.far (a := ⟨g, 3, none⟩) (Ne.symm hgx) (.int .i64 ((m.done : Int) + 1)))
  have HP4 := Lib.hid (HP3.out.far (a := ⟨g, 3, none⟩) (Ne.symm hgp) (.int .i64 ((m.done : Int) + 1)))
  have HA4 := Lib.hid (HA3.out.far (a := ⟨g, 3, none⟩) (Ne.symm hga) (.int .i64 ((m.done : Int) + 1)))
  have HT4 := Lib.hid ((Turns.of_below (S := mOwn g nv pv) HB3.out).trans (turns_g HTa))
  clear HX3 HP3 HA3 HM3 HB3 HTa s0 s3 s3f
  generalize w3.setCell ⟨g, 3, none⟩ (.int .i64 ((m.done : Int) + 1)) = w4 at *
  have s0 : w4.cell? ⟨w.heap.size, 0, none⟩ = some (.pointer (some ⟨g, 0, none⟩)) := HP4.out.cell (j := 0) rfl
  have x0 : w4.cell? ⟨B2, 0, none⟩ = some (.int .i64 x.op) := HX4.out.cell (j := 0) rfl
  have x1 : w4.cell? ⟨B2, 1, none⟩ = some (.int .i64 x.a) := HX4.out.cell (j := 1) rfl
  have x2 : w4.cell? ⟨B2, 2, none⟩ = some (.int .i64 x.b) := HX4.out.cell (j := 2) rfl
  have x3 : w4.cell? ⟨B2, 3, none⟩ = some (.int .i64 x.c) := HX4.out.cell (j := 3) rfl
  have x4 : w4.cell? ⟨B2, 4, none⟩ = some (.int .i64 x.n) := HX4.out.cell (j := 4) rfl
  have x5 : w4.cell? ⟨B2, 5, none⟩ = some (.int .u64 (x.k : Nat)) := HX4.out.cell (j := 5) rfl
  have HF4 : Hid (({ m with done := m.done + 1 } : Mach).Fit) := Lib.hid ⟨HF.out.fuel, HF.out.len, HF.out.code, HF.out.at_, HG.out.2, HF.out.rlen, HF.out.regs, HF.out.nlen, HF.out.nums, HF.out.plen, HF.out.places, HF.out.chunks, HF.out.pieces⟩
  have kd0 := do_any HM4.out HF4.out HXO.out (fun wz hz => HT.out wz (HT4.out.trans hz))
  unfold xval at kd0
  have KD := Lib.hid kd0
  clear kd0
  obtain ⟨K, hK⟩ : ∃ K, y.2.1 = K := ⟨_, rfl⟩
  obtain ⟨T, hTx⟩ : ∃ T : ByteArray, (⟨(toldM { m with done := m.done + 1 } x K).toArray⟩ : ByteArray) = T := ⟨_, rfl⟩
  have hsay : doSays { m with done := m.done + 1 } x = .returned (.agg #[.int .i64 K, .string T]) := by
    unfold doSays bstr
    rw [HY.out, if_pos HC0.out, hK, hTx]
  have hfit := doM_fit (P := Tryz.prog) w HF4.out (x := x) HXO.out HXK.out
  rw [HY.out] at hfit
  have HFY := Lib.hid hfit
  rw [hsay, HY.out] at KD
  have HTX := Lib.hid hTx
  have HKX := Lib.hid hK
  clear hsay hfit hTx hK
  go_upto_region 7 with (go_at_call 36; with_reducible (refine KD.out.mono ?_); rintro _ w5 ⟨rfl, nv5, hn5, hM5, hT5⟩; have HM5 := Lib.hid hM5; have HT5 := Lib.hid hT5; have HN5 := Lib.hid (hn5.later HT4.out.size); have HA5 := Lib.hid (HA4.out.turns hT5 (mOwn_not HM4.out HA4.out (by decide) (by decide) (by decide))); have HP5 := Lib.hid (HP4.out.turns hT5 (mOwn_not HM4.out HP4.out (by decide) (by decide) (by decide))); have HX5 := Lib.hid (HX4.out.turns hT5 (mOwn_not HM4.out HX4.out (by decide) (by decide) (by decide))); have HT05 := Lib.hid (HT4.out.trans hT5); clear hM5 hT5 hn5 s0 x0 x1 x2 x3 x4 x5; have a0 : w5.cell? ⟨w.heap.size + 1, 0, none⟩ = some (.int .i64 0) := HA5.out.cell (j := 0) rfl; have a1 : w5.cell? ⟨w.heap.size + 1, 1, none⟩ = some (.string ⟨#[]⟩) := HA5.out.cell (j := 1) rfl; have a0f := HA5.out.fz 0; have a1f := HA5.out.fz 1)
  have HE6 := Lib.hid (act_end (nv := nv) (pv := pv) (w := w) HM5.out HA5.out HT05.out (by omega) (.int .i64 K) (.string T))
  have HA6 := Lib.hid (show Cells ((w5.setCell ⟨w.heap.size + 1, 0, none⟩ (.int .i64 K)).setCell ⟨w.heap.size + 1, 1, none⟩ (.string T)) (w.heap.size + 1) 56 #[.int .i64 K, .string T] from (HA5.out.set 0 (.int .i64 K)).set 1 (.string T))
  have HP6 := Lib.hid ((HP5.out.far (a := ⟨w.heap.size + 1, 0, none⟩) (by simp) (.int .i64 K)).far (a := ⟨w.heap.size + 1, 1, none⟩) (by simp) (.string T))
  have HX6 := Lib.hid ((HX5.out.far (a := ⟨w.heap.size + 1, 0, none⟩) (by simp; omega) (.int .i64 K)).far (a := ⟨w.heap.size + 1, 1, none⟩) (by simp; omega) (.string T))
  have HM6 := Lib.hid HE6.out.1
  have HT6 := Lib.hid HE6.out.2
  clear HM5 HT5 HA5 HP5 HX5 HT05 HE6 a0 a1 a0f a1f
  generalize (w5.setCell ⟨w.heap.size + 1, 0, none⟩ (.int .i64 K)).setCell ⟨w.heap.size + 1, 1, none⟩ (.string T) = w6 at *
  have s0 : w6.cell? ⟨w.heap.size, 0, none⟩ = some (.pointer (some ⟨g, 0, none⟩)) := HP6.out.cell (j := 0) rfl
  have x0 : w6.cell? ⟨B2, 0, none⟩ = some (.int .i64 x.op) := HX6.out.cell (j := 0) rfl
  have x1 : w6.cell? ⟨B2, 1, none⟩ = some (.int .i64 x.a) := HX6.out.cell (j := 1) rfl
  have x2 : w6.cell? ⟨B2, 2, none⟩ = some (.int .i64 x.b) := HX6.out.cell (j := 2) rfl
  have x3 : w6.cell? ⟨B2, 3, none⟩ = some (.int .i64 x.c) := HX6.out.cell (j := 3) rfl
  have x4 : w6.cell? ⟨B2, 4, none⟩ = some (.int .i64 x.n) := HX6.out.cell (j := 4) rfl
  have x5 : w6.cell? ⟨B2, 5, none⟩ = some (.int .u64 (x.k : Nat)) := HX6.out.cell (j := 5) rfl
  have hat : y.1.at_ < y.1.code.length := by have h1 := HFY.out.2.1; have h2 := HFY.out.2.2.2.2.1; rw [h1, h2]; exact HG.out.1
  have kj0 := jump_any (HM6.out.drew) HFY.out.1 hat (many := m.code.length) HXO.out
  unfold xval at kj0
  have KJ := Lib.hid kj0
  clear kj0 KD
  have hsay : jumpSays y.1 x = .returned (.int .i64 (q.2.1 : Nat)) := by
    unfold jumpSays
    rw [HQ.out, if_pos HC1.out]
  have hjf := jumpM_fit HFY.out.1 hat (x := x) (by rw [HFY.out.2.1]; exact HXO.out)
  rw [HQ.out] at hjf
  have HJF := Lib.hid hjf
  rw [hsay, HQ.out] at KJ
  clear hsay hjf hat
  refine wp_region_noPanic ?_
  refine wp_region_held_drew (S := fun w' => w'.cell? ⟨w.heap.size, 0, none⟩ = some (.pointer (some ⟨g, 0, none⟩)) ∧ w'.cell? ⟨B2, 0, none⟩ = some (.int .i64 x.op) ∧ w'.cell? ⟨B2, 1, none⟩ = some (.int .i64 x.a) ∧ w'.cell? ⟨B2, 2, none⟩ = some (.int .i64 x.b) ∧ w'.cell? ⟨B2, 3, none⟩ = some (.int .i64 x.c) ∧ w'.cell? ⟨B2, 4, none⟩ = some (.int .i64 x.n) ∧ w'.cell? ⟨B2, 5, none⟩ = some (.int .u64 (x.k : Nat))) (by kernel_rfl) ⟨s0, x0, x1, x2, x3, x4, x5⟩ (fun hS => ?_)
  refine wpAnyH_take (i := 0) (v := ?_) rfl (by kernel_rfl) (by kernel_rfl) (by kernel_rfl) (fun _ _ _ h => h) (Or.inl ⟨by rfl, ?_⟩) hS ?_
  rotate_left
  · (intro wx hSx; (try dsimp only at hSx); go_simp; (try with_reducible rfl))
  simp only [List.getElem_toArray, List.getElem_cons_zero, Act.put, List.setIfInBounds_toArray, List.set_cons_zero, List.set_cons_succ]
  refine wpAnyH_take (i := 1) (v := ?_) rfl (by kernel_rfl) (by kernel_rfl) (by kernel_rfl) (fun _ _ _ h => h) (Or.inl ⟨by rfl, ?_⟩) hS ?_
  rotate_left
  · (intro wx hSx; (try dsimp only at hSx); go_simp; (try with_reducible rfl))
  simp only [List.getElem_toArray, List.getElem_cons_succ, List.getElem_cons_zero, Act.put, List.setIfInBounds_toArray, List.set_cons_zero, List.set_cons_succ]
  refine wpAnyH_take (i := 2) (v := ?_) rfl (by kernel_rfl) (by kernel_rfl) (by kernel_rfl) (fun _ _ _ h => h) (Or.inl ⟨by rfl, ?_⟩) hS ?_
  rotate_left
  · (intro wx hSx; (try dsimp only at hSx); go_simp; (try with_reducible rfl))
  simp only [List.getElem_toArray, List.getElem_cons_succ, List.getElem_cons_zero, Act.put, List.setIfInBounds_toArray, List.set_cons_zero, List.set_cons_succ]
  refine wpAnyH_ready (rs := [3]) (by kernel_rfl) (by simp) ?_
  refine AllReadyH.cons rfl (fun K hK => ?_) AllReadyH.nil
  go_simp
  go_at_call 37
  with_reducible (refine KJ.out.mono ?_)
  rintro _ w7 ⟨rfl, pv7, hp7, hM7, hT7d⟩
  have hT7 : Turns (mOwn g nv5 pv) w6 w7 := ⟨hT7d.os, hT7d.tape, hT7d.output, hT7d.size, hT7d.block⟩
  have HX7 := Lib.hid (HX6.out.turns hT7 (mOwn_not HM6.out HX6.out (by decide) (by decide) (by decide)))
  have HP7 := Lib.hid (HP6.out.turns hT7 (mOwn_not HM6.out HP6.out (by decide) (by decide) (by decide)))
  have HA7 := Lib.hid (HA6.out.turns hT7 (mOwn_not HM6.out HA6.out (by decide) (by decide) (by decide)))
  have HM7 := Lib.hid hM7
  have HT7 := Lib.hid hT7
  have HPV7 := Lib.hid (show Anew w pv pv7 from hp7.later HT6.out.size)
  have hS7 : w7.cell? ⟨w.heap.size, 0, none⟩ = some (.pointer (some ⟨g, 0, none⟩)) ∧ w7.cell? ⟨B2, 0, none⟩ = some (.int .i64 x.op) ∧ w7.cell? ⟨B2, 1, none⟩ = some (.int .i64 x.a) ∧ w7.cell? ⟨B2, 2, none⟩ = some (.int .i64 x.b) ∧ w7.cell? ⟨B2, 3, none⟩ = some (.int .i64 x.c) ∧ w7.cell? ⟨B2, 4, none⟩ = some (.int .i64 x.n) ∧ w7.cell? ⟨B2, 5, none⟩ = some (.int .u64 (x.k : Nat)) := ⟨HP7.out.cell (j := 0) rfl, HX7.out.cell (j := 0) rfl, HX7.out.cell (j := 1) rfl, HX7.out.cell (j := 2) rfl, HX7.out.cell (j := 3) rfl, HX7.out.cell (j := 4) rfl, HX7.out.cell (j := 5) rfl⟩
  have hS8 : ∀ u, (w7.setCell ⟨g, 2, none⟩ u).cell? ⟨w.heap.size, 0, none⟩ = some (.pointer (some ⟨g, 0, none⟩)) ∧ (w7.setCell ⟨g, 2, none⟩ u).cell? ⟨B2, 0, none⟩ = some (.int .i64 x.op) ∧ (w7.setCell ⟨g, 2, none⟩ u).cell? ⟨B2, 1, none⟩ = some (.int .i64 x.a) ∧ (w7.setCell ⟨g, 2, none⟩ u).cell? ⟨B2, 2, none⟩ = some (.int .i64 x.b) ∧ (w7.setCell ⟨g, 2, none⟩ u).cell? ⟨B2, 3, none⟩ = some (.int .i64 x.c) ∧ (w7.setCell ⟨g, 2, none⟩ u).cell? ⟨B2, 4, none⟩ = some (.int .i64 x.n) ∧ (w7.setCell ⟨g, 2, none⟩ u).cell? ⟨B2, 5, none⟩ = some (.int .u64 (x.k : Nat)) := fun u => ⟨(HP7.out.far (a := ⟨g, 2, none⟩) (Ne.symm hgp) u).cell (j := 0) rfl, (HX7.out.far (a := ⟨g, 2, none⟩) (Ne.symm hgx) u).cell (j := 0) rfl, (HX7.out.far (a := ⟨g, 2, none⟩) (Ne.symm hgx) u).cell (j := 1) rfl, (HX7.out.far (a := ⟨g, 2, none⟩) (Ne.symm hgx) u).cell (j := 2) rfl, (HX7.out.far (a := ⟨g, 2, none⟩) (Ne.symm hgx) u).cell (j := 3) rfl, (HX7.out.far (a := ⟨g, 2, none⟩) (Ne.symm hgx) u).cell (j := 4) rfl, (HX7.out.far (a := ⟨g, 2, none⟩) (Ne.symm hgx) u).cell (j := 5) rfl⟩
  have s2 := HM7.out.cells.cell (j := 2) rfl
  have s2f := HM7.out.cells.fz 2
  clear hM7 hT7 hT7d hp7
  refine hK.out _ _ (by first | with_reducible exact hS | with_reducible exact hS7 | with_reducible exact hS8 _ | exact hS8 _ | exact hS) (fun hS => ?_)
  clear hK K
  try simp only [Act.put, List.setIfInBounds_toArray, List.set_cons_zero, List.set_cons_succ]
  refine wpAnyH_take (i := 4) (v := ?_) rfl (by kernel_rfl) (by kernel_rfl) (by kernel_rfl) (fun _ _ _ h => h) (Or.inl ⟨by rfl, ?_⟩) hS ?_
  rotate_left
  · (intro wx hSx; (try dsimp only at hSx); go_simp; (try with_reducible rfl))
  simp only [List.getElem_toArray, List.getElem_cons_succ, List.getElem_cons_zero, Act.put, List.setIfInBounds_toArray, List.set_cons_zero, List.set_cons_succ]
  refine wpAnyH_take (i := 5) (v := ?_) rfl (by kernel_rfl) (by kernel_rfl) (by kernel_rfl) (fun _ _ _ h => h) (Or.inl ⟨by rfl, ?_⟩) hS ?_
  rotate_left
  · (intro wx hSx; (try dsimp only at hSx); go_simp; (try with_reducible rfl))
  simp only [List.getElem_toArray, List.getElem_cons_succ, List.getElem_cons_zero, Act.put, List.setIfInBounds_toArray, List.set_cons_zero, List.set_cons_succ]
  refine wpAnyH_ready (rs := [6]) (by kernel_rfl) (by simp) ?_
  refine AllReadyH.cons rfl (fun K hK => ?_) AllReadyH.nil
  go_simp
  refine hK.out _ _ (by first | with_reducible exact hS | with_reducible exact hS7 | with_reducible exact hS8 _ | exact hS8 _ | exact hS) (fun hS => ?_)
  clear hK K
  try simp only [Act.put, List.setIfInBounds_toArray, List.set_cons_zero, List.set_cons_succ]
  refine wpAnyH_done (by kernel_rfl) ?_ _
-- LEAF
  refine NoPanic.normal ?_
  clear hS7 hS8 hS s0 x0 x1 x2 x3 x4 x5 s2 s2f
  try change Exit.then _ _ Exit.normal _ (w7.setCell ⟨g, 2, none⟩ (.int .i64 (q.2.1 : Nat)))
  have HT8a : Turns [g] w7 (w7.setCell ⟨g, 2, none⟩ (.int .i64 (q.2.1 : Nat))) := (Turns.refl _ _).set (.inl (by simp)) _
  have HM8 := Lib.hid (show Mw (w7.setCell ⟨g, 2, none⟩ (.int .i64 (q.2.1 : Nat))) g _ nv5 pv7 { q.1 with at_ := q.2.1 } from HM7.out.block HT8a (HM7.out.cells.set 2 (.int .i64 (q.2.1 : Nat))) rfl rfl rfl)
  have HT8 := Lib.hid (show Turns (mOwn g nv pv) w (w7.setCell ⟨g, 2, none⟩ (.int .i64 (q.2.1 : Nat))) from HT6.out.trans' (HT7.out) (mOwn_anew HN5.out (Anew.refl w pv)) |>.trans (turns_g HT8a))
  have HX8 := Lib.hid (HX7.out.far (a := ⟨g, 2, none⟩) (Ne.symm hgx) (.int .i64 (q.2.1 : Nat)))
  have HP8 := Lib.hid (HP7.out.far (a := ⟨g, 2, none⟩) (Ne.symm hgp) (.int .i64 (q.2.1 : Nat)))
  have HA8 := Lib.hid (HA7.out.far (a := ⟨g, 2, none⟩) (Ne.symm hga) (.int .i64 (q.2.1 : Nat)))
  clear HT8a HM6 HT6 HX6 HP6 HA6 HM7 HT7 HX7 HP7 HA7
  generalize w7.setCell ⟨g, 2, none⟩ (.int .i64 (q.2.1 : Nat)) = w8 at *
  have s0 : w8.cell? ⟨w.heap.size, 0, none⟩ = some (.pointer (some ⟨g, 0, none⟩)) := HP8.out.cell (j := 0) rfl
  have x0 : w8.cell? ⟨B2, 0, none⟩ = some (.int .i64 x.op) := HX8.out.cell (j := 0) rfl
  have s2 : w8.cell? ⟨g, 2, none⟩ = some (.int .i64 (q.2.1 : Nat)) := HM8.out.cells.cell (j := 2) rfl
  have s1 : w8.cell? ⟨g, 1, none⟩ = some (.slice (some ⟨bc, 0, none⟩) m.code.length cap) := HM8.out.cells.cell (j := 1) rfl
  have s3 : w8.cell? ⟨g, 3, none⟩ = some (.int .i64 (q.1.done : Nat)) := HM8.out.cells.cell (j := 3) rfl
  have sf : w8.cell? ⟨g, 0, none⟩ = some (.int .i64 (q.1.fuel : Nat)) := HM8.out.cells.cell (j := 0) rfl
  go_upto_region 8 with (fail)
  have hcode : q.1.code = m.code := HJF.out.2.1.trans HFY.out.2.1
  by_cases h24 : x.op = 24
  · have t24 : (x.op == 24) = true := by rw [beq_iff_eq]; exact h24
    have HNX : Hid (nextM { q.1 with at_ := q.2.1 } x = endM { q.1 with at_ := q.2.1 } 0) := Lib.hid (by unfold nextM; exact if_pos (.inl h24))
    clear h24 hcode
    go_quiet (fail)
    generalize hw9 : World.drewN w8 _ = w9
    have HM9 := Lib.hid (show Mw w9 g _ nv5 pv7 _ from hw9 ▸ HM8.out.drewN _)
    have HT9 := Lib.hid (show Turns (mOwn g nv pv) w w9 from hw9 ▸ HT8.out.drewN _)
    have HA9 := Lib.hid (show Cells w9 (w.heap.size + 1) 56 _ from hw9 ▸ HA8.out.drewN _)
    have HP9 := Lib.hid (show Cells w9 w.heap.size 38 _ from hw9 ▸ HP8.out.drewN _)
    clear hw9 s0 s1 s2 s3 sf x0 HM8 HT8 HA8 HP8 HX8
    have s0 : w9.cell? ⟨w.heap.size, 0, none⟩ = some (.pointer (some ⟨g, 0, none⟩)) := HP9.out.cell (j := 0) rfl
    have KE := end_any HM9.out.cells 0
    go_upto_region 12 with (go_at_call 35; with_reducible (refine KE.mono ?_); rintro _ w10 ⟨rfl, hC10, hT10⟩; have HC10 := Lib.hid hC10; have HT10a := Lib.hid hT10; clear hC10 hT10)
    have HM10 := Lib.hid (HM9.out.block HT10a.out HC10.out rfl rfl rfl)
    have HT10 := Lib.hid (HT9.out.trans (turns_g (nv := nv) (pv := pv) HT10a.out))
    have HA10 := Lib.hid (HA9.out.turns HT10a.out (by simp; omega))
    have HSZ := HA10.out.lt
    have a0 : w10.cell? ⟨w.heap.size + 1, 0, none⟩ = some (.int .i64 K) := HA10.out.cell (j := 0) rfl
    have a1 : w10.cell? ⟨w.heap.size + 1, 1, none⟩ = some (.string T) := HA10.out.cell (j := 1) rfl
    have a0f := HA10.out.fz 0
    have a1f := HA10.out.fz 1
    go_wp2
    refine leaves_cons (f := 34) (args := #[.pointer (some ⟨w.heap.size + 1, 0, none⟩), .pointer (some ⟨w.heap.size, 0, none⟩)]) (by simp) (by simp [go_sem]) ?_
    refine (catch_returning _ _ _).mono ?_
    rintro x11 u' w11 ⟨rfl, rfl, rfl⟩
    have HE := Lib.hid (act_end (nv := nv) (pv := pv) (w := w) HM10.out HA10.out HT10.out (by omega) (.int .i64 K) (.string T))
    have HA11 := (((HA10.out.set 0 (.int .i64 K)).set 1 (.string T)).alloc (.cells #[.int .i64 0] 84))
    have b0 : (((w10.setCell ⟨w.heap.size + 1, 0, none⟩ (.int .i64 K)).setCell ⟨w.heap.size + 1, 1, none⟩ (.string T)).alloc (.cells #[.int .i64 0] 84)).cell? ⟨w.heap.size + 1, 0, none⟩ = some (.int .i64 K) := HA11.cell (j := 0) rfl
    have b1 : (((w10.setCell ⟨w.heap.size + 1, 0, none⟩ (.int .i64 K)).setCell ⟨w.heap.size + 1, 1, none⟩ (.string T)).alloc (.cells #[.int .i64 0] 84)).cell? ⟨w.heap.size + 1, 1, none⟩ = some (.string T) := HA11.cell (j := 1) rfl
    clear a0 a1 a0f a1f HA11
    simp only [Leaves, settle]
    first
      | refine ⟨.tuple #[.agg #[.int .i64 K, .string T], .int .i64 0], ?_, by rw [HKX.out, HTX.out], nv5, pv7, HN5.out, HPV7.out, (by rw [HNX.out]; exact HE.out.1.alloc _), HE.out.2.alloc _⟩
      | refine ⟨.tuple #[.agg #[.int .i64 K, .string T], .int .i64 0], ?_, by rw [HKX.out, HTX.out], nv5, HN5.out, pv7, HPV7.out, (by rw [HNX.out]; exact HE.out.1.alloc _), HE.out.2.alloc _⟩
    simp [results, Tryz.results20, go_sem, b0, b1]
  have t24 : (x.op == 24) = false := by rw [beq_eq_false_iff_ne]; exact h24
  have u24 : decide (x.op = 24) = false := decide_eq_false h24
  by_cases hlen : q.2.1 = m.code.length
  · have tl : (((q.2.1 : Nat) : Int) == ((m.code.length : Nat) : Int)) = true := by rw [beq_iff_eq, hlen]
    have HNX : Hid (nextM { q.1 with at_ := q.2.1 } x = endM { q.1 with at_ := q.2.1 } 0) := Lib.hid (by unfold nextM; exact if_pos (.inr (by rw [hcode]; exact hlen)))
    clear h24 hcode hlen
    go_quiet (fail)
    generalize hw9 : World.drewN w8 _ = w9
    have HM9 := Lib.hid (show Mw w9 g _ nv5 pv7 _ from hw9 ▸ HM8.out.drewN _)
    have HT9 := Lib.hid (show Turns (mOwn g nv pv) w w9 from hw9 ▸ HT8.out.drewN _)
    have HA9 := Lib.hid (show Cells w9 (w.heap.size + 1) 56 _ from hw9 ▸ HA8.out.drewN _)
    have HP9 := Lib.hid (show Cells w9 w.heap.size 38 _ from hw9 ▸ HP8.out.drewN _)
    clear hw9 s0 s1 s2 s3 sf x0 HM8 HT8 HA8 HP8 HX8
    have s0 : w9.cell? ⟨w.heap.size, 0, none⟩ = some (.pointer (some ⟨g, 0, none⟩)) := HP9.out.cell (j := 0) rfl
    have KE := end_any HM9.out.cells 0
    go_upto_region 12 with (go_at_call 35; with_reducible (refine KE.mono ?_); rintro _ w10 ⟨rfl, hC10, hT10⟩; have HC10 := Lib.hid hC10; have HT10a := Lib.hid hT10; clear hC10 hT10)
    have HM10 := Lib.hid (HM9.out.block HT10a.out HC10.out rfl rfl rfl)
    have HT10 := Lib.hid (HT9.out.trans (turns_g (nv := nv) (pv := pv) HT10a.out))
    have HA10 := Lib.hid (HA9.out.turns HT10a.out (by simp; omega))
    have HSZ := HA10.out.lt
    have a0 : w10.cell? ⟨w.heap.size + 1, 0, none⟩ = some (.int .i64 K) := HA10.out.cell (j := 0) rfl
    have a1 : w10.cell? ⟨w.heap.size + 1, 1, none⟩ = some (.string T) := HA10.out.cell (j := 1) rfl
    have a0f := HA10.out.fz 0
    have a1f := HA10.out.fz 1
    go_wp2
    refine leaves_cons (f := 34) (args := #[.pointer (some ⟨w.heap.size + 1, 0, none⟩), .pointer (some ⟨w.heap.size, 0, none⟩)]) (by simp) (by simp [go_sem]) ?_
    refine (catch_returning _ _ _).mono ?_
    rintro x11 u' w11 ⟨rfl, rfl, rfl⟩
    have HE := Lib.hid (act_end (nv := nv) (pv := pv) (w := w) HM10.out HA10.out HT10.out (by omega) (.int .i64 K) (.string T))
    have HA11 := (((HA10.out.set 0 (.int .i64 K)).set 1 (.string T)).alloc (.cells #[.int .i64 0] 84))
    have b0 : (((w10.setCell ⟨w.heap.size + 1, 0, none⟩ (.int .i64 K)).setCell ⟨w.heap.size + 1, 1, none⟩ (.string T)).alloc (.cells #[.int .i64 0] 84)).cell? ⟨w.heap.size + 1, 0, none⟩ = some (.int .i64 K) := HA11.cell (j := 0) rfl
    have b1 : (((w10.setCell ⟨w.heap.size + 1, 0, none⟩ (.int .i64 K)).setCell ⟨w.heap.size + 1, 1, none⟩ (.string T)).alloc (.cells #[.int .i64 0] 84)).cell? ⟨w.heap.size + 1, 1, none⟩ = some (.string T) := HA11.cell (j := 1) rfl
    clear a0 a1 a0f a1f HA11
    simp only [Leaves, settle]
    first
      | refine ⟨.tuple #[.agg #[.int .i64 K, .string T], .int .i64 0], ?_, by rw [HKX.out, HTX.out], nv5, pv7, HN5.out, HPV7.out, (by rw [HNX.out]; exact HE.out.1.alloc _), HE.out.2.alloc _⟩
      | refine ⟨.tuple #[.agg #[.int .i64 K, .string T], .int .i64 0], ?_, by rw [HKX.out, HTX.out], nv5, HN5.out, pv7, HPV7.out, (by rw [HNX.out]; exact HE.out.1.alloc _), HE.out.2.alloc _⟩
    simp [results, Tryz.results20, go_sem, b0, b1]
  have tl : (((q.2.1 : Nat) : Int) == ((m.code.length : Nat) : Int)) = false := by rw [beq_eq_false_iff_ne]; omega
  have hno : ¬ (x.op = 24 ∨ ({ q.1 with at_ := q.2.1 } : Mach).at_ = ({ q.1 with at_ := q.2.1 } : Mach).code.length) := by
    rintro (h | h)
    · exact h24 h
    · exact hlen (h.trans (congrArg List.length hcode))
  have HNO := Lib.hid hno
  clear hno h24 hcode hlen
  go_quiet (fail)
  generalize hw9 : World.drewN w8 _ = w9
  have HM9 := Lib.hid (show Mw w9 g _ nv5 pv7 _ from hw9 ▸ HM8.out.drewN _)
  have HT9 := Lib.hid (show Turns (mOwn g nv pv) w w9 from hw9 ▸ HT8.out.drewN _)
  have HA9 := Lib.hid (show Cells w9 (w.heap.size + 1) 56 _ from hw9 ▸ HA8.out.drewN _)
  have HP9 := Lib.hid (show Cells w9 w.heap.size 38 _ from hw9 ▸ HP8.out.drewN _)
  clear hw9 s0 s1 s2 s3 sf x0 HM8 HT8 HA8 HP8 HX8
  have s0 : w9.cell? ⟨w.heap.size, 0, none⟩ = some (.pointer (some ⟨g, 0, none⟩)) := HP9.out.cell (j := 0) rfl
  have s3 : w9.cell? ⟨g, 3, none⟩ = some (.int .i64 (q.1.done : Nat)) := HM9.out.cells.cell (j := 3) rfl
  have sf : w9.cell? ⟨g, 0, none⟩ = some (.int .i64 (q.1.fuel : Nat)) := HM9.out.cells.cell (j := 0) rfl
  go_upto_region 10 with (fail)
  by_cases hd : q.1.done = q.1.fuel
  · have td : (((q.1.done : Nat) : Int) == ((q.1.fuel : Nat) : Int)) = true := by rw [beq_iff_eq, hd]
    have HNX : Hid (nextM { q.1 with at_ := q.2.1 } x = endM { q.1 with at_ := q.2.1 } 1) := Lib.hid (by unfold nextM; rw [if_neg HNO.out]; exact if_pos hd)
    clear hd
    go_quiet (fail)
    generalize hw9 : World.drewN w9 _ = wA
    have HM9A := HM9.out.drewN
    have HMA := Lib.hid (show Mw wA g _ nv5 pv7 _ from hw9 ▸ HM9.out.drewN _)
    have HTA := Lib.hid (show Turns (mOwn g nv pv) w wA from hw9 ▸ HT9.out.drewN _)
    have HAA := Lib.hid (show Cells wA (w.heap.size + 1) 56 _ from hw9 ▸ HA9.out.drewN _)
    have HPA := Lib.hid (show Cells wA w.heap.size 38 _ from hw9 ▸ HP9.out.drewN _)
    clear hw9 s0 s3 sf HM9 HT9 HA9 HP9 HM9A
    have s0 : wA.cell? ⟨w.heap.size, 0, none⟩ = some (.pointer (some ⟨g, 0, none⟩)) := HPA.out.cell (j := 0) rfl
    have KE := end_any HMA.out.cells 1
    go_upto_region 12 with (go_at_call 35; with_reducible (refine KE.mono ?_); rintro _ w10 ⟨rfl, hC10, hT10⟩; have HC10 := Lib.hid hC10; have HT10a := Lib.hid hT10; clear hC10 hT10)
    have HM10 := Lib.hid (HMA.out.block HT10a.out HC10.out rfl rfl rfl)
    have HT10 := Lib.hid (HTA.out.trans (turns_g (nv := nv) (pv := pv) HT10a.out))
    have HA10 := Lib.hid (HAA.out.turns HT10a.out (by simp; omega))
    have HSZ := HA10.out.lt
    have a0 : w10.cell? ⟨w.heap.size + 1, 0, none⟩ = some (.int .i64 K) := HA10.out.cell (j := 0) rfl
    have a1 : w10.cell? ⟨w.heap.size + 1, 1, none⟩ = some (.string T) := HA10.out.cell (j := 1) rfl
    have a0f := HA10.out.fz 0
    have a1f := HA10.out.fz 1
    go_wp2
    refine leaves_cons (f := 34) (args := #[.pointer (some ⟨w.heap.size + 1, 0, none⟩), .pointer (some ⟨w.heap.size, 0, none⟩)]) (by simp) (by simp [go_sem]) ?_
    refine (catch_returning _ _ _).mono ?_
    rintro x11 u' w11 ⟨rfl, rfl, rfl⟩
    have HE := Lib.hid (act_end (nv := nv) (pv := pv) (w := w) HM10.out HA10.out HT10.out (by omega) (.int .i64 K) (.string T))
    have HA11 := (((HA10.out.set 0 (.int .i64 K)).set 1 (.string T)).alloc (.cells #[.int .i64 0] 84))
    have b0 : (((w10.setCell ⟨w.heap.size + 1, 0, none⟩ (.int .i64 K)).setCell ⟨w.heap.size + 1, 1, none⟩ (.string T)).alloc (.cells #[.int .i64 0] 84)).cell? ⟨w.heap.size + 1, 0, none⟩ = some (.int .i64 K) := HA11.cell (j := 0) rfl
    have b1 : (((w10.setCell ⟨w.heap.size + 1, 0, none⟩ (.int .i64 K)).setCell ⟨w.heap.size + 1, 1, none⟩ (.string T)).alloc (.cells #[.int .i64 0] 84)).cell? ⟨w.heap.size + 1, 1, none⟩ = some (.string T) := HA11.cell (j := 1) rfl
    clear a0 a1 a0f a1f HA11
    simp only [Leaves, settle]
    first
      | refine ⟨.tuple #[.agg #[.int .i64 K, .string T], .int .i64 0], ?_, by rw [HKX.out, HTX.out], nv5, pv7, HN5.out, HPV7.out, (by rw [HNX.out]; exact HE.out.1.alloc _), HE.out.2.alloc _⟩
      | refine ⟨.tuple #[.agg #[.int .i64 K, .string T], .int .i64 0], ?_, by rw [HKX.out, HTX.out], nv5, HN5.out, pv7, HPV7.out, (by rw [HNX.out]; exact HE.out.1.alloc _), HE.out.2.alloc _⟩
    simp [results, Tryz.results20, go_sem, b0, b1]
  · have td : (((q.1.done : Nat) : Int) == ((q.1.fuel : Nat) : Int)) = false := by rw [beq_eq_false_iff_ne]; omega
    have HNX : Hid (nextM { q.1 with at_ := q.2.1 } x = { q.1 with at_ := q.2.1 }) := Lib.hid (by unfold nextM; rw [if_neg HNO.out]; exact if_neg hd)
    clear hd
    go_quiet (fail)
    generalize hw9 : World.drewN w9 _ = w10
    have HM10 := Lib.hid (show Mw w10 g _ nv5 pv7 _ from hw9 ▸ HM9.out.drewN _)
    have HT10 := Lib.hid (show Turns (mOwn g nv pv) w w10 from hw9 ▸ HT9.out.drewN _)
    have HA10 := Lib.hid (show Cells w10 (w.heap.size + 1) 56 _ from hw9 ▸ HA9.out.drewN _)
    clear hw9 s0 s3 sf HM9 HT9 HA9 HP9
    have HSZ := HA10.out.lt
    have a0 : w10.cell? ⟨w.heap.size + 1, 0, none⟩ = some (.int .i64 K) := HA10.out.cell (j := 0) rfl
    have a1 : w10.cell? ⟨w.heap.size + 1, 1, none⟩ = some (.string T) := HA10.out.cell (j := 1) rfl
    have a0f := HA10.out.fz 0
    have a1f := HA10.out.fz 1
    go_wp2
    refine leaves_cons (f := 34) (args := #[.pointer (some ⟨w.heap.size + 1, 0, none⟩), .pointer (some ⟨w.heap.size, 0, none⟩)]) (by simp) (by simp [go_sem]) ?_
    refine (catch_returning _ _ _).mono ?_
    rintro x11 u' w11 ⟨rfl, rfl, rfl⟩
    have HE := Lib.hid (act_end (nv := nv) (pv := pv) (w := w) HM10.out HA10.out HT10.out (by omega) (.int .i64 K) (.string T))
    have HA11 := (((HA10.out.set 0 (.int .i64 K)).set 1 (.string T)).alloc (.cells #[.int .i64 0] 84))
    have b0 : (((w10.setCell ⟨w.heap.size + 1, 0, none⟩ (.int .i64 K)).setCell ⟨w.heap.size + 1, 1, none⟩ (.string T)).alloc (.cells #[.int .i64 0] 84)).cell? ⟨w.heap.size + 1, 0, none⟩ = some (.int .i64 K) := HA11.cell (j := 0) rfl
    have b1 : (((w10.setCell ⟨w.heap.size + 1, 0, none⟩ (.int .i64 K)).setCell ⟨w.heap.size + 1, 1, none⟩ (.string T)).alloc (.cells #[.int .i64 0] 84)).cell? ⟨w.heap.size + 1, 1, none⟩ = some (.string T) := HA11.cell (j := 1) rfl
    clear a0 a1 a0f a1f HA11
    simp only [Leaves, settle]
    first
      | refine ⟨.tuple #[.agg #[.int .i64 K, .string T], .int .i64 0], ?_, by rw [HKX.out, HTX.out], nv5, pv7, HN5.out, HPV7.out, (by rw [HNX.out]; exact HE.out.1.alloc _), HE.out.2.alloc _⟩
      | refine ⟨.tuple #[.agg #[.int .i64 K, .string T], .int .i64 0], ?_, by rw [HKX.out, HTX.out], nv5, HN5.out, pv7, HPV7.out, (by rw [HNX.out]; exact HE.out.1.alloc _), HE.out.2.alloc _⟩
    simp [results, Tryz.results20, go_sem, b0, b1]

theorem get_put {a : Act} {d j : Nat} {v : Value} (h : d ≠ j) : (a.put (some d) v).tmps[j]? = a.tmps[j]? := by
  simp [Act.put, Array.getElem?_setIfInBounds, h]
def PanicAt (ch0 : List PanicEntry) (p : Value) (df : List Deferred) (F : World → Prop) : Exit → Act → World → Prop
  | .panic ch, a, w => ch = ch0 ∧ a.tmps[2]? = some p ∧ a.tmps[3]? = some (.int .i64 0) ∧ a.defers = df ∧ F w
  | _, _, _ => False
theorem panic_put {ch0 : List PanicEntry} {p : Value} {df : List Deferred} {F : World → Prop} {d : Nat} {v : Value} (h2 : d ≠ 2) (h3 : d ≠ 3) : ∀ c a w, PanicAt ch0 p df F (.panic c) (a.put (some d) v) w → PanicAt ch0 p df F (.panic c) a w := by
  rintro c a w ⟨h, k2, k3, k4, k5⟩
  exact ⟨h, (get_put h2).symm.trans k2, (get_put h3).symm.trans k3, k4, k5⟩

set_option maxRecDepth 100000 in
set_option maxHeartbeats 4000000 in
theorem step_jumptrap {w : World} {g : Nat} {cs nv pv : Value} {m : Mach} (hM : Mw w g cs nv pv m) (hF : m.Fit) (hG : m.Goes) (ho : m.over = false) (hT : ∀ wz, Turns (mOwn g nv pv) w wz → TabsAt wz) {x : Ins} (hxe : m.code.getD m.at_ default = x) {y : Mach × Int × Int} (hy : doM { m with done := m.done + 1 } x = y) (hc0 : y.2.2 = 0) {q : Mach × Nat × Int} (hq : jumpM y.1 x = q) (hc1 : q.2.2 ≠ 0) :
    Calls Tryz.prog 20 #[.pointer (some ⟨g, 0, none⟩)] w fun e w' => e = .returned (.tuple #[.agg #[.int .i64 0, .string ⟨#[]⟩], .int .i64 0]) ∧ ∃ nv' pv', Anew w nv nv' ∧ Anew w pv pv' ∧ Mw w' g cs nv' pv' (endM q.1 q.2.2) ∧ Turns (mOwn g nv pv) w w' := by
  have HY := Lib.hid hy
  have HC0 := Lib.hid hc0
  have HQ := Lib.hid hq
  have HC1 := Lib.hid hc1
  clear hy hc0 hq hc1
  obtain ⟨g1, g2⟩ := hG ho
  obtain ⟨hx, hxo, hxk⟩ := code_get hF g1
  rw [hxe] at hx hxo hxk
  obtain ⟨bc, cap, rfl, hbc, hi⟩ := code_read hM hx
  have c16 : w.cell? ⟨g, 16, none⟩ = some (.bool false) := ho ▸ hM.cells.cell (j := 16) rfl
  have hlt := hM.lt
  have HM0 := Lib.hid hM
  have HXE := Lib.hid hxe
  have HXO := Lib.hid hxo
  have HXK := Lib.hid hxk
  have HT := Lib.hid hT
  have HG := Lib.hid (And.intro g1 g2)
  have HF := Lib.hid hF
  have HI := Lib.hid hi
  have i0 : (0 : Int) ≤ m.at_ := by omega
  have i1 : (m.at_ : Int) < m.code.length := by omega
  have hwr : wrap64 ((m.done : Int) + 1) = (m.done : Int) + 1 := by have := hF.fuel.2; unfold wrap64; omega
  have hmf : ∀ (fn : Fn) (first cap : Array Value) (w : World), (Instr.makeFunc fn first cap).run Tryz.prog w = .ok (.func fn first cap) w := fun _ _ _ _ => rfl
  clear hM hF hG hT hx hxe hxo hxk hi ho g1 g2
  go_enter_defers Tryz.func20, Tryz.ntmps20
  go_upto_region 4 with (fail)
  have HP := Lib.hid ((Cells.new w 38 #[.pointer (some ⟨g, 0, none⟩)]).alloc (.cells #[.int .i64 0, .string ⟨#[]⟩] 56))
  have HA := Lib.hid (Cells.newAt (w.alloc (.cells #[.pointer (some ⟨g, 0, none⟩)] 38)) 56 #[.int .i64 0, .string ⟨#[]⟩] (w.heap.size + 1) (by simp))
  have HB := Lib.hid (((Below.refl w.heap.size w).alloc (Nat.le_refl _) (.cells #[.pointer (some ⟨g, 0, none⟩)] 38)).alloc (by simp) (.cells #[.int .i64 0, .string ⟨#[]⟩] 56))
  generalize (w.alloc (.cells #[.pointer (some ⟨g, 0, none⟩)] 38)).alloc (.cells #[.int .i64 0, .string ⟨#[]⟩] 56) = w2 at *
  have HM := Lib.hid (Mw.keep HM0.out HB.out)
  have HI2 := Lib.hid (HI.out.keep (HB.out) hbc)
  have s0 : w2.cell? ⟨w.heap.size, 0, none⟩ = some (.pointer (some ⟨g, 0, none⟩)) := HP.out.cell (j := 0) rfl
  have s1 : w2.cell? ⟨g, 1, none⟩ = some (.slice (some ⟨bc, 0, none⟩) m.code.length cap) := HM.out.cells.cell (j := 1) rfl
  have s2 : w2.cell? ⟨g, 2, none⟩ = some (.int .i64 (m.at_ : Nat)) := HM.out.cells.cell (j := 2) rfl
  have hS0 : w2.cell? ⟨w.heap.size, 0, none⟩ = some (.pointer (some ⟨g, 0, none⟩)) ∧ w2.cell? ⟨g, 1, none⟩ = some (.slice (some ⟨bc, 0, none⟩) m.code.length cap) ∧ w2.cell? ⟨g, 2, none⟩ = some (.int .i64 (m.at_ : Nat)) ∧ w2.cell? ⟨bc, m.at_ * 6, none⟩ = some (.int .i64 x.op) ∧ w2.cell? ⟨bc, m.at_ * 6 + 1, none⟩ = some (.int .i64 x.a) ∧ w2.cell? ⟨bc, m.at_ * 6 + 2, none⟩ = some (.int .i64 x.b) ∧ w2.cell? ⟨bc, m.at_ * 6 + 3, none⟩ = some (.int .i64 x.c) ∧ w2.cell? ⟨bc, m.at_ * 6 + 4, none⟩ = some (.int .i64 x.n) ∧ w2.cell? ⟨bc, m.at_ * 6 + 5, none⟩ = some (.int .u64 (x.k : Nat)) := ⟨s0, s1, s2, HI2.out.1, HI2.out.2.1, HI2.out.2.2.1, HI2.out.2.2.2.1, HI2.out.2.2.2.2.1, HI2.out.2.2.2.2.2⟩
  have hSa : ∀ Z, (w2.alloc Z).cell? ⟨w.heap.size, 0, none⟩ = some (.pointer (some ⟨g, 0, none⟩)) ∧ (w2.alloc Z).cell? ⟨g, 1, none⟩ = some (.slice (some ⟨bc, 0, none⟩) m.code.length cap) ∧ (w2.alloc Z).cell? ⟨g, 2, none⟩ = some (.int .i64 (m.at_ : Nat)) ∧ (w2.alloc Z).cell? ⟨bc, m.at_ * 6, none⟩ = some (.int .i64 x.op) ∧ (w2.alloc Z).cell? ⟨bc, m.at_ * 6 + 1, none⟩ = some (.int .i64 x.a) ∧ (w2.alloc Z).cell? ⟨bc, m.at_ * 6 + 2, none⟩ = some (.int .i64 x.b) ∧ (w2.alloc Z).cell? ⟨bc, m.at_ * 6 + 3, none⟩ = some (.int .i64 x.c) ∧ (w2.alloc Z).cell? ⟨bc, m.at_ * 6 + 4, none⟩ = some (.int .i64 x.n) ∧ (w2.alloc Z).cell? ⟨bc, m.at_ * 6 + 5, none⟩ = some (.int .u64 (x.k : Nat)) := fun Z =>
    have q := fun (a : Addr) (v : Value) (h : w2.cell? a = some v) => (World.cell?_alloc_some w2 a Z (by rw [h]; rfl)).trans h
    ⟨q _ _ s0, q _ _ s1, q _ _ s2, q _ _ HI2.out.1, q _ _ HI2.out.2.1, q _ _ HI2.out.2.2.1, q _ _ HI2.out.2.2.2.1, q _ _ HI2.out.2.2.2.2.1, q _ _ HI2.out.2.2.2.2.2⟩
  refine wp_region_noPanic ?_
  refine wp_region_held_drew (S := fun w' => w'.cell? ⟨w.heap.size, 0, none⟩ = some (.pointer (some ⟨g, 0, none⟩)) ∧ w'.cell? ⟨g, 1, none⟩ = some (.slice (some ⟨bc, 0, none⟩) m.code.length cap) ∧ w'.cell? ⟨g, 2, none⟩ = some (.int .i64 (m.at_ : Nat)) ∧ w'.cell? ⟨bc, m.at_ * 6, none⟩ = some (.int .i64 x.op) ∧ w'.cell? ⟨bc, m.at_ * 6 + 1, none⟩ = some (.int .i64 x.a) ∧ w'.cell? ⟨bc, m.at_ * 6 + 2, none⟩ = some (.int .i64 x.b) ∧ w'.cell? ⟨bc, m.at_ * 6 + 3, none⟩ = some (.int .i64 x.c) ∧ w'.cell? ⟨bc, m.at_ * 6 + 4, none⟩ = some (.int .i64 x.n) ∧ w'.cell? ⟨bc, m.at_ * 6 + 5, none⟩ = some (.int .u64 (x.k : Nat))) (by kernel_rfl) hS0 (fun hS => ?_)
  refine wpAnyH_take (i := 0) (v := ?_) rfl (by kernel_rfl) (by kernel_rfl) (by kernel_rfl) (fun _ _ _ h => h) (Or.inl ⟨by rfl, ?_⟩) hS ?_
  rotate_left
  · (intro wx hSx; (try dsimp only at hSx); go_simp; (try with_reducible rfl))
  simp only [List.getElem_toArray, List.getElem_cons_zero, Act.put, List.setIfInBounds_toArray, List.set_cons_zero, List.set_cons_succ]
  refine wpAnyH_take (i := 1) (v := ?_) rfl (by kernel_rfl) (by kernel_rfl) (by kernel_rfl) (fun _ _ _ h => h) (Or.inl ⟨by rfl, ?_⟩) hS ?_
  rotate_left
  · (intro wx hSx; (try dsimp only at hSx); go_simp; (try with_reducible rfl))
  simp only [List.getElem_toArray, List.getElem_cons_succ, List.getElem_cons_zero, Act.put, List.setIfInBounds_toArray, List.set_cons_zero, List.set_cons_succ]
  refine wpAnyH_take (i := 2) (v := ?_) rfl (by kernel_rfl) (by kernel_rfl) (by kernel_rfl) (fun _ _ _ h => h) (Or.inl ⟨by rfl, ?_⟩) hS ?_
  rotate_left
  · (intro wx hSx; (try dsimp only at hSx); go_simp; (try with_reducible rfl))
  simp only [List.getElem_toArray, List.getElem_cons_succ, List.getElem_cons_zero, Act.put, List.setIfInBounds_toArray, List.set_cons_zero, List.set_cons_succ]
  refine wpAnyH_take (i := 3) (v := ?_) rfl (by kernel_rfl) (by kernel_rfl) (by kernel_rfl) (fun _ _ _ h => h) (Or.inl ⟨by rfl, ?_⟩) hS ?_
  rotate_left
  · (intro wx hSx; (try dsimp only at hSx); go_simp; (try with_reducible rfl))
  simp only [List.getElem_toArray, List.getElem_cons_succ, List.getElem_cons_zero, Act.put, List.setIfInBounds_toArray, List.set_cons_zero, List.set_cons_succ]
  refine wpAnyH_take (i := 4) (v := ?_) rfl (by kernel_rfl) (by kernel_rfl) (by kernel_rfl) (fun _ _ _ h => h) (Or.inl ⟨by rfl, ?_⟩) hS ?_
  rotate_left
  · (intro wx hSx; (try dsimp only at hSx); go_simp; (try with_reducible rfl))
  simp only [List.getElem_toArray, List.getElem_cons_succ, List.getElem_cons_zero, Act.put, List.setIfInBounds_toArray, List.set_cons_zero, List.set_cons_succ]
  refine wpAnyH_take (i := 5) (v := ?_) rfl (by kernel_rfl) (by kernel_rfl) (by kernel_rfl) (fun _ _ _ h => h) (Or.inl ⟨by rfl, ?_⟩) hS ?_
  rotate_left
  · (intro wx hSx; (try dsimp only at hSx); go_simp; (try with_reducible rfl))
  simp only [List.getElem_toArray, List.getElem_cons_succ, List.getElem_cons_zero, Act.put, List.setIfInBounds_toArray, List.set_cons_zero, List.set_cons_succ]
  refine wpAnyH_take (i := 6) (v := ?_) rfl (by kernel_rfl) (by kernel_rfl) (by kernel_rfl) (fun _ _ _ h => h) (Or.inl ⟨by rfl, ?_⟩) hS ?_
  rotate_left
  · (intro wx hSx; (try dsimp only at hSx); go_simp; (try with_reducible rfl))
  simp only [List.getElem_toArray, List.getElem_cons_succ, List.getElem_cons_zero, Act.put, List.setIfInBounds_toArray, List.set_cons_zero, List.set_cons_succ]
  refine wpAnyH_take (i := 7) (v := ?_) rfl (by kernel_rfl) (by kernel_rfl) (by kernel_rfl) (fun _ _ _ h => h) (Or.inl ⟨by rfl, ?_⟩) hS ?_
  rotate_left
  · (intro wx hSx; (try dsimp only at hSx); go_simp; (try with_reducible rfl))
  simp only [List.getElem_toArray, List.getElem_cons_succ, List.getElem_cons_zero, Act.put, List.setIfInBounds_toArray, List.set_cons_zero, List.set_cons_succ]
  refine wpAnyH_take (i := 8) (v := ?_) rfl (by kernel_rfl) (by kernel_rfl) (by kernel_rfl) (fun _ _ _ h => h) (Or.inl ⟨by rfl, ?_⟩) hS ?_
  rotate_left
  · (intro wx hSx; (try dsimp only at hSx); go_simp; (try with_reducible rfl))
  simp only [List.getElem_toArray, List.getElem_cons_succ, List.getElem_cons_zero, Act.put, List.setIfInBounds_toArray, List.set_cons_zero, List.set_cons_succ]
  refine wpAnyH_take (i := 9) (v := ?_) rfl (by kernel_rfl) (by kernel_rfl) (by kernel_rfl) (fun _ _ _ h => h) (Or.inl ⟨by rfl, ?_⟩) hS ?_
  rotate_left
  · (intro wx hSx; (try dsimp only at hSx); go_simp; (try with_reducible rfl))
  simp only [List.getElem_toArray, List.getElem_cons_succ, List.getElem_cons_zero, Act.put, List.setIfInBounds_toArray, List.set_cons_zero, List.set_cons_succ]
  refine wpAnyH_take (i := 10) (v := ?_) rfl (by kernel_rfl) (by kernel_rfl) (by kernel_rfl) (fun _ _ _ h => h) (Or.inl ⟨by rfl, ?_⟩) hS ?_
  rotate_left
  · (intro wx hSx; (try dsimp only at hSx); go_simp; (try with_reducible rfl))
  simp only [List.getElem_toArray, List.getElem_cons_succ, List.getElem_cons_zero, Act.put, List.setIfInBounds_toArray, List.set_cons_zero, List.set_cons_succ]
  refine wpAnyH_ready (rs := [11]) (by kernel_rfl) (by simp) ?_
  refine AllReadyH.cons rfl (fun K hK => ?_) AllReadyH.nil
  go_simp
  refine hK.out _ _ (by first | with_reducible exact hS | with_reducible exact hSa _ | exact hSa _) (fun hS => ?_)
  clear hK K
  try simp only [Act.put, List.setIfInBounds_toArray, List.set_cons_zero, List.set_cons_succ]
  refine wpAnyH_ready (rs := [12]) (by kernel_rfl) (by simp) ?_
  refine AllReadyH.cons rfl (fun K hK => ?_) AllReadyH.nil
  go_simp
  refine hK.out _ _ (by first | with_reducible exact hS | with_reducible exact hSa _ | exact hSa _) (fun hS => ?_)
  clear hK K
  try simp only [Act.put, List.setIfInBounds_toArray, List.set_cons_zero, List.set_cons_succ]
  refine wpAnyH_done (by kernel_rfl) ?_ _
  refine NoPanic.normal ?_
  clear hS0 hSa s0 s1 s2 hS
  try change Exit.then _ _ Exit.normal _ (w2.alloc (.cells #[.int .i64 x.op, .int .i64 x.a, .int .i64 x.b, .int .i64 x.c, .int .i64 x.n, .int .u64 (x.k : Nat)] 77)).drew
  have HX3 := Lib.hid (show Cells (w2.alloc (.cells #[.int .i64 x.op, .int .i64 x.a, .int .i64 x.b, .int .i64 x.c, .int .i64 x.n, .int .u64 (x.k : Nat)] 77)).drew w2.heap.size 77 #[.int .i64 x.op, .int .i64 x.a, .int .i64 x.b, .int .i64 x.c, .int .i64 x.n, .int .u64 (x.k : Nat)] from (Cells.new w2 _ _).drew)
  have HP3 := Lib.hid (show Cells (w2.alloc (.cells #[.int .i64 x.op, .int .i64 x.a, .int .i64 x.b, .int .i64 x.c, .int .i64 x.n, .int .u64 (x.k : Nat)] 77)).drew w.heap.size 38 _ from (HP.out.alloc _).drew)
  have HA3 := Lib.hid (show Cells (w2.alloc (.cells #[.int .i64 x.op, .int .i64 x.a, .int .i64 x.b, .int .i64 x.c, .int .i64 x.n, .int .u64 (x.k : Nat)] 77)).drew (w.heap.size + 1) 56 _ from (HA.out.alloc _).drew)
  have HM3 := Lib.hid (show Mw (w2.alloc (.cells #[.int .i64 x.op, .int .i64 x.a, .int .i64 x.b, .int .i64 x.c, .int .i64 x.n, .int .u64 (x.k : Nat)] 77)).drew g _ nv pv m from (HM.out.alloc _).drew)
  have HB3 := Lib.hid (show Below w.heap.size w (w2.alloc (.cells #[.int .i64 x.op, .int .i64 x.a, .int .i64 x.b, .int .i64 x.c, .int .i64 x.n, .int .u64 (x.k : Nat)] 77)).drew from (HB.out.alloc HB.out.size _).drew)
  have hl2 : w.heap.size + 1 < w2.heap.size := HA.out.lt
  clear HP HA HM HB HI HI2 c16
  generalize (w2.alloc (.cells #[.int .i64 x.op, .int .i64 x.a, .int .i64 x.b, .int .i64 x.c, .int .i64 x.n, .int .u64 (x.k : Nat)] 77)).drew = w3 at *
  generalize w2.heap.size = B2 at *
  have s0 : w3.cell? ⟨w.heap.size, 0, none⟩ = some (.pointer (some ⟨g, 0, none⟩)) := HP3.out.cell (j := 0) rfl
  have s3 : w3.cell? ⟨g, 3, none⟩ = some (.int .i64 (m.done : Nat)) := HM3.out.cells.cell (j := 3) rfl
  have s3f := HM3.out.cells.fz 3
  go_upto_region 6 with (fail)
  have HTa : Turns [g] w3 (w3.setCell ⟨g, 3, none⟩ (.int .i64 ((m.done : Int) + 1))) := (Turns.refl _ _).set (.inl (by simp)) _
  have HM4 := Lib.hid (show Mw (w3.setCell ⟨g, 3, none⟩ (.int .i64 ((m.done : Int) + 1))) g _ nv pv { m with done := m.done + 1 } from HM3.out.block HTa (HM3.out.cells.set 3 (.int .i64 ((m.done : Int) + 1))) rfl rfl rfl)
  have hgx : g ≠ B2 := block_ne HM3.out.cells HX3.out (by decide)
  have hga : g ≠ w.heap.size + 1 := by omega
  have hgp : g ≠ w.heap.size := by omega
  have HX4 := Lib.hid (HX3.out.far (a := ⟨g, 3, none⟩) (Ne.symm hgx) (.int .i64 ((m.done : Int) + 1)))
  have HP4 := Lib.hid (HP3.out.far (a := ⟨g, 3, none⟩) (Ne.symm hgp) (.int .i64 ((m.done : Int) + 1)))
  have HA4 := Lib.hid (HA3.out.far (a := ⟨g, 3, none⟩) (Ne.symm hga) (.int .i64 ((m.done : Int) + 1)))
  have HT4 := Lib.hid ((Turns.of_below (S := mOwn g nv pv) HB3.out).trans (turns_g HTa))
  clear HX3 HP3 HA3 HM3 HB3 HTa s0 s3 s3f
  generalize w3.setCell ⟨g, 3, none⟩ (.int .i64 ((m.done : Int) + 1)) = w4 at *
  have s0 : w4.cell? ⟨w.heap.size, 0, none⟩ = some (.pointer (some ⟨g, 0, none⟩)) := HP4.out.cell (j := 0) rfl
  have x0 : w4.cell? ⟨B2, 0, none⟩ = some (.int .i64 x.op) := HX4.out.cell (j := 0) rfl
  have x1 : w4.cell? ⟨B2, 1, none⟩ = some (.int .i64 x.a) := HX4.out.cell (j := 1) rfl
  have x2 : w4.cell? ⟨B2, 2, none⟩ = some (.int .i64 x.b) := HX4.out.cell (j := 2) rfl
  have x3 : w4.cell? ⟨B2, 3, none⟩ = some (.int .i64 x.c) := HX4.out.cell (j := 3) rfl
  have x4 : w4.cell? ⟨B2, 4, none⟩ = some (.int .i64 x.n) := HX4.out.cell (j := 4) rfl
  have x5 : w4.cell? ⟨B2, 5, none⟩ = some (.int .u64 (x.k : Nat)) := HX4.out.cell (j := 5) rfl
  have HF4 : Hid (({ m with done := m.done + 1 } : Mach).Fit) := Lib.hid ⟨HF.out.fuel, HF.out.len, HF.out.code, HF.out.at_, HG.out.2, HF.out.rlen, HF.out.regs, HF.out.nlen, HF.out.nums, HF.out.plen, HF.out.places, HF.out.chunks, HF.out.pieces⟩
  have kd0 := do_any HM4.out HF4.out HXO.out (fun wz hz => HT.out wz (HT4.out.trans hz))
  unfold xval at kd0
  have KD := Lib.hid kd0
  clear kd0
  obtain ⟨K, hK⟩ : ∃ K, y.2.1 = K := ⟨_, rfl⟩
  obtain ⟨T, hTx⟩ : ∃ T : ByteArray, (⟨(toldM { m with done := m.done + 1 } x K).toArray⟩ : ByteArray) = T := ⟨_, rfl⟩
  have hsay : doSays { m with done := m.done + 1 } x = .returned (.agg #[.int .i64 K, .string T]) := by
    unfold doSays bstr
    rw [HY.out, if_pos HC0.out, hK, hTx]
  have hfit := doM_fit (P := Tryz.prog) w HF4.out (x := x) HXO.out HXK.out
  rw [HY.out] at hfit
  have HFY := Lib.hid hfit
  rw [hsay, HY.out] at KD
  have HTX := Lib.hid hTx
  have HKX := Lib.hid hK
  clear hsay hfit hTx hK
  go_upto_region 7 with (go_at_call 36; with_reducible (refine KD.out.mono ?_); rintro _ w5 ⟨rfl, nv5, hn5, hM5, hT5⟩; have HM5 := Lib.hid hM5; have HT5 := Lib.hid hT5; have HN5 := Lib.hid (hn5.later HT4.out.size); have HA5 := Lib.hid (HA4.out.turns hT5 (mOwn_not HM4.out HA4.out (by decide) (by decide) (by decide))); have HP5 := Lib.hid (HP4.out.turns hT5 (mOwn_not HM4.out HP4.out (by decide) (by decide) (by decide))); have HX5 := Lib.hid (HX4.out.turns hT5 (mOwn_not HM4.out HX4.out (by decide) (by decide) (by decide))); have HT05 := Lib.hid (HT4.out.trans hT5); clear hM5 hT5 hn5 s0 x0 x1 x2 x3 x4 x5; have a0 : w5.cell? ⟨w.heap.size + 1, 0, none⟩ = some (.int .i64 0) := HA5.out.cell (j := 0) rfl; have a1 : w5.cell? ⟨w.heap.size + 1, 1, none⟩ = some (.string ⟨#[]⟩) := HA5.out.cell (j := 1) rfl; have a0f := HA5.out.fz 0; have a1f := HA5.out.fz 1)
  have HE6 := Lib.hid (act_end (nv := nv) (pv := pv) (w := w) HM5.out HA5.out HT05.out (by omega) (.int .i64 K) (.string T))
  have HA6 := Lib.hid (show Cells ((w5.setCell ⟨w.heap.size + 1, 0, none⟩ (.int .i64 K)).setCell ⟨w.heap.size + 1, 1, none⟩ (.string T)) (w.heap.size + 1) 56 #[.int .i64 K, .string T] from (HA5.out.set 0 (.int .i64 K)).set 1 (.string T))
  have HP6 := Lib.hid ((HP5.out.far (a := ⟨w.heap.size + 1, 0, none⟩) (by simp) (.int .i64 K)).far (a := ⟨w.heap.size + 1, 1, none⟩) (by simp) (.string T))
  have HX6 := Lib.hid ((HX5.out.far (a := ⟨w.heap.size + 1, 0, none⟩) (by simp; omega) (.int .i64 K)).far (a := ⟨w.heap.size + 1, 1, none⟩) (by simp; omega) (.string T))
  have HM6 := Lib.hid HE6.out.1
  have HT6 := Lib.hid HE6.out.2
  clear HM5 HT5 HA5 HP5 HX5 HT05 HE6 a0 a1 a0f a1f
  generalize (w5.setCell ⟨w.heap.size + 1, 0, none⟩ (.int .i64 K)).setCell ⟨w.heap.size + 1, 1, none⟩ (.string T) = w6 at *
  have s0 : w6.cell? ⟨w.heap.size, 0, none⟩ = some (.pointer (some ⟨g, 0, none⟩)) := HP6.out.cell (j := 0) rfl
  have x0 : w6.cell? ⟨B2, 0, none⟩ = some (.int .i64 x.op) := HX6.out.cell (j := 0) rfl
  have x1 : w6.cell? ⟨B2, 1, none⟩ = some (.int .i64 x.a) := HX6.out.cell (j := 1) rfl
  have x2 : w6.cell? ⟨B2, 2, none⟩ = some (.int .i64 x.b) := HX6.out.cell (j := 2) rfl
  have x3 : w6.cell? ⟨B2, 3, none⟩ = some (.int .i64 x.c) := HX6.out.cell (j := 3) rfl
  have x4 : w6.cell? ⟨B2, 4, none⟩ = some (.int .i64 x.n) := HX6.out.cell (j := 4) rfl
  have x5 : w6.cell? ⟨B2, 5, none⟩ = some (.int .u64 (x.k : Nat)) := HX6.out.cell (j := 5) rfl
  have hat : y.1.at_ < y.1.code.length := by have h1 := HFY.out.2.1; have h2 := HFY.out.2.2.2.2.1; rw [h1, h2]; exact HG.out.1
  have kj0 := jump_any (HM6.out.drew) HFY.out.1 hat (many := m.code.length) HXO.out
  unfold xval at kj0
  have KJ := Lib.hid kj0
  clear kj0 KD
  obtain ⟨c, hcc⟩ : ∃ c, q.2.2 = c := ⟨_, rfl⟩
  have hsay : jumpSays y.1 x = .panicked (trapped c) := by
    unfold jumpSays
    rw [HQ.out, if_neg HC1.out, hcc]
  have HCC := Lib.hid hcc
  rw [hsay, HQ.out] at KJ
  clear hsay hat hcc
  refine Code.wp_mono (Q := PanicAt (trapped c) (.pointer (some ⟨w.heap.size + 1, 0, none⟩)) [{ target := .fn (.func 34) #[.pointer (some ⟨w.heap.size + 1, 0, none⟩), .pointer (some ⟨w.heap.size, 0, none⟩)], args := #[] }] (fun wz => ∃ pv7, Anew w6 pv pv7 ∧ Mw wz g (.slice (some ⟨bc, 0, none⟩) m.code.length cap) nv5 pv7 q.1 ∧ Turns (mOwn g nv5 pv) w6 wz)) ?_ ?_
  rotate_left
  refine wp_region_held_drew (S := fun w' => w'.cell? ⟨w.heap.size, 0, none⟩ = some (.pointer (some ⟨g, 0, none⟩)) ∧ w'.cell? ⟨B2, 0, none⟩ = some (.int .i64 x.op) ∧ w'.cell? ⟨B2, 1, none⟩ = some (.int .i64 x.a) ∧ w'.cell? ⟨B2, 2, none⟩ = some (.int .i64 x.b) ∧ w'.cell? ⟨B2, 3, none⟩ = some (.int .i64 x.c) ∧ w'.cell? ⟨B2, 4, none⟩ = some (.int .i64 x.n) ∧ w'.cell? ⟨B2, 5, none⟩ = some (.int .u64 (x.k : Nat))) (by kernel_rfl) ⟨s0, x0, x1, x2, x3, x4, x5⟩ (fun hS => ?_)
  refine wpAnyH_take (i := 0) (v := ?_) rfl (by kernel_rfl) (by kernel_rfl) (by kernel_rfl) (panic_put (d := 32) (by decide) (by decide)) (Or.inl ⟨by rfl, ?_⟩) hS ?_
  rotate_left
  · (intro wx hSx; (try dsimp only at hSx); go_simp; (try with_reducible rfl))
  simp only [List.getElem_toArray, List.getElem_cons_zero, Act.put, List.setIfInBounds_toArray, List.set_cons_zero, List.set_cons_succ]
  refine wpAnyH_take (i := 1) (v := ?_) rfl (by kernel_rfl) (by kernel_rfl) (by kernel_rfl) (panic_put (d := 33) (by decide) (by decide)) (Or.inl ⟨by rfl, ?_⟩) hS ?_
  rotate_left
  · (intro wx hSx; (try dsimp only at hSx); go_simp; (try with_reducible rfl))
  simp only [List.getElem_toArray, List.getElem_cons_succ, List.getElem_cons_zero, Act.put, List.setIfInBounds_toArray, List.set_cons_zero, List.set_cons_succ]
  refine wpAnyH_take (i := 2) (v := ?_) rfl (by kernel_rfl) (by kernel_rfl) (by kernel_rfl) (panic_put (d := 34) (by decide) (by decide)) (Or.inl ⟨by rfl, ?_⟩) hS ?_
  rotate_left
  · (intro wx hSx; (try dsimp only at hSx); go_simp; (try with_reducible rfl))
  simp only [List.getElem_toArray, List.getElem_cons_succ, List.getElem_cons_zero, Act.put, List.setIfInBounds_toArray, List.set_cons_zero, List.set_cons_succ]
  refine wpAnyH_ready (rs := [3]) (by kernel_rfl) (by simp) ?_
  refine AllReadyH.cons rfl (fun K' hK => ?_) AllReadyH.nil
  go_simp
  go_at_call 37
  with_reducible (refine KJ.out.mono ?_)
  rintro _ w7 ⟨rfl, pv7, hp7, hM7, hT7⟩
  exact ⟨rfl, rfl, rfl, rfl, pv7, ⟨hp7.imp id (fun h => h), hM7, ⟨hT7.os, hT7.tape, hT7.output, hT7.size, hT7.block⟩⟩⟩
  intro e a' w7 hq7
  cases e with
  | panic ch =>
    obtain ⟨tm, df⟩ := a'
    obtain ⟨rfl, k2, k3, rfl, pv7, hp7, hM7, hT7⟩ := hq7
    simp only at k2 k3
    have HM7 := Lib.hid hM7
    have HT7 := Lib.hid hT7
    have HPV7 := Lib.hid (show Anew w pv pv7 from hp7.later HT6.out.size)
    have HA7 := Lib.hid (HA6.out.turns hT7 (mOwn_not HM6.out HA6.out (by decide) (by decide) (by decide)))
    have HP7 := Lib.hid (HP6.out.turns hT7 (mOwn_not HM6.out HP6.out (by decide) (by decide) (by decide)))
    have HT07 := Lib.hid (HT6.out.trans' hT7 (mOwn_anew HN5.out (Anew.refl w pv)))
    clear hM7 hT7 hp7 s0 x0 x1 x2 x3 x4 x5
    refine leaves_cons (f := 34) (args := #[.pointer (some ⟨w.heap.size + 1, 0, none⟩), .pointer (some ⟨w.heap.size, 0, none⟩)]) (by simp) (by simp [go_sem]) ?_
    refine (catch_panicking (av := #[]) c [] w7 _ _ HA7.out HP7.out HM7.out.cells).mono ?_
    rintro x8 u' w8 ⟨rfl, rfl, hC8, hA8, hT8⟩
    have HC8 := Lib.hid hC8
    have HT8 := Lib.hid hT8
    have a0 : w8.cell? ⟨w.heap.size + 1, 0, none⟩ = some (.int .i64 0) := hA8.cell (j := 0) rfl
    have a1 : w8.cell? ⟨w.heap.size + 1, 1, none⟩ = some (.string ⟨#[]⟩) := hA8.cell (j := 1) rfl
    clear hC8 hT8 hA8
    have hfin : Mw w8 g (.slice (some ⟨bc, 0, none⟩) m.code.length cap) nv5 pv7 (endM q.1 q.2.2) ∧ Turns (mOwn g nv pv) w w8 := ⟨(by rw [HCC.out]; exact HM7.out.blockA HT8.out HA7.out HC8.out rfl rfl rfl), turns_join HT07.out HT8.out (mOwn_g _ _ _) (by omega)⟩
    have HFIN := Lib.hid hfin
    clear hfin
    simp [Leaves, settle, results, Tryz.results20, go_sem, a0, a1, k2, k3]
    first
      | exact ⟨nv5, HN5.out, pv7, HPV7.out, HFIN.out⟩
      | exact ⟨nv5, pv7, HN5.out, HPV7.out, HFIN.out⟩
  | _ => exact hq7.elim

set_option maxRecDepth 100000 in
theorem step_any {w : World} {g : Nat} {cs nv pv : Value} {m : Mach} (hM : Mw w g cs nv pv m) (hF : m.Fit) (hG : m.Goes) (ho : m.over = false) (hT : ∀ wz, Turns (mOwn g nv pv) w wz → TabsAt wz) :
    Calls Tryz.prog 20 #[.pointer (some ⟨g, 0, none⟩)] w fun e w' => e = .returned (.tuple #[.agg #[.int .i64 (stepM m).2.1, .string ⟨(stepM m).2.2.toArray⟩], .int .i64 0]) ∧ ∃ nv' pv', Anew w nv nv' ∧ Anew w pv pv' ∧ Mw w' g cs nv' pv' ((stepM m).1) ∧ Turns (mOwn g nv pv) w w' := by
  obtain ⟨x, hx⟩ : ∃ x, m.code.getD m.at_ default = x := ⟨_, rfl⟩
  obtain ⟨y, hy⟩ : ∃ y, doM { m with done := m.done + 1 } x = y := ⟨_, rfl⟩
  obtain ⟨q, hq⟩ : ∃ q, jumpM y.1 x = q := ⟨_, rfl⟩
  by_cases hc0 : y.2.2 = 0
  · by_cases hc1 : q.2.2 = 0
    · have e : stepM m = (nextM { q.1 with at_ := q.2.1 } x, y.2.1, toldM m x y.2.1) := by
        unfold stepM
        simp only [hx, hy, hq]
        rw [if_neg (by simpa using hc0), if_neg (by simpa using hc1)]
      rw [e]
      exact step_ok hM hF hG ho hT hx hy hc0 hq hc1
    · have e : stepM m = (endM q.1 q.2.2, 0, []) := by
        unfold stepM
        simp only [hx, hy, hq]
        rw [if_neg (by simpa using hc0), if_pos (by simpa using hc1)]
      rw [e]
      exact step_jumptrap hM hF hG ho hT hx hy hc0 hq hc1
  · have e : stepM m = (endM y.1 y.2.2, 0, []) := by
      unfold stepM
      simp only [hx, hy]
      rw [if_pos (by simpa using hc0)]
    rw [e]
    exact step_dotrap hM hF hG ho hT hx hy hc0

-- STEP
end Go.Proofs.YtjloiclbknfomaaGreatDoor
