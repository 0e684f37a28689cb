/- Registers that are none; do both machines stand as one; the clones of both (contracts). -/
import Derived.Test.YtjloiclbknfomaaGreatDoorKrw
import Derived.Deep.RegionWith
import Derived.Deep.WholeRow
import Derived.Laws.AppendOwnNone
set_option maxRecDepth 100000
namespace Go.Proofs.YtjloiclbknfomaaGreatDoor
open Go.RowKit Ieee

theorem reg_low (g : Nat) (w : World) : Calls Tryz.prog 24 #[.pointer (some ⟨g, 0, none⟩), .int .i64 (-1)] w fun e w' => e = .returned (.int .u64 0) ∧ w' = w := by
  go_enter Tryz.func24, Tryz.ntmps24
  go_wp2
  go_ret
  exact ⟨rfl, rfl⟩
theorem reg_high (g : Nat) (w : World) : Calls Tryz.prog 24 #[.pointer (some ⟨g, 0, none⟩), .int .i64 8] w fun e w' => e = .returned (.int .u64 0) ∧ w' = w := by
  go_enter Tryz.func24, Tryz.ntmps24
  go_wp2
  go_ret
  exact ⟨rfl, rfl⟩
theorem res_same (a : Int) (b : Int) (w : World) : (binOp .neq 27 (.agg #[.int .i64 a, .int .u64 b]) (.agg #[.int .i64 a, .int .u64 b])).run Tryz.prog w = .ok (.bool false) w := by
  simp [go_sem]

set_option maxHeartbeats 4000000 in
set_option maxRecDepth 100000 in
theorem same_any {w : World} {g h : Nat} {cs nv pv cs2 nv2 pv2 : Value} {m : Mach} (hM : Cells w g 61 (m.cells cs nv pv)) (hR : Cells w h 63 (m.cells cs2 nv2 pv2)) :
    Calls Tryz.prog 15 #[.pointer (some ⟨g, 0, none⟩), .pointer (some ⟨h, 0, none⟩)] w fun e w' => e = .returned (.bool true) ∧ Below w.heap.size w w' := by
  have HM := Lib.hid hM
  have HR := Lib.hid hR
  have d1 : ∀ y : BW w, y.val.cell? ⟨h, 3, none⟩ = some (.int .i64 (m.done : Nat)) := fun y => (HR.out.keep y.below).cell (j := 3) rfl
  have d2 : ∀ y : BW w, y.val.cell? ⟨h, 2, none⟩ = some (.int .i64 (m.at_ : Nat)) := fun y => (HR.out.keep y.below).cell (j := 2) rfl
  have d3 : ∀ y : BW w, y.val.cell? ⟨h, 16, none⟩ = some (.bool m.over) := fun y => (HR.out.keep y.below).cell (j := 16) rfl
  have d4 : ∀ y : BW w, y.val.cell? ⟨h, 17, none⟩ = some (.int .i64 m.rcode) := fun y => (HR.out.keep y.below).cell (j := 17) rfl
  have d5 : ∀ y : BW w, y.val.cell? ⟨h, 18, none⟩ = some (.int .u64 (m.rbits : Nat)) := fun y => (HR.out.keep y.below).cell (j := 18) rfl
  have KO := Lib.hid fun y : BW w => over_any (HM.out.keep y.below)
  have KR := Lib.hid fun y : BW w => result_any (HM.out.keep y.below)
  have KD := Lib.hid fun y : BW w => done_any (HM.out.keep y.below)
  have KP := Lib.hid fun y : BW w => place_any (HM.out.keep y.below)
  have KL := Lib.hid fun y : BW w => reg_low g y.val
  have KH := Lib.hid fun y : BW w => reg_high g y.val
  have hs := res_same m.rcode (m.rbits : Nat)
  have t1 : (m.over != m.over) = false := by simp
  have t2 : (((m.done : Nat) : Int) != ((m.done : Nat) : Int)) = false := by simp
  have t3 : (((m.at_ : Nat) : Int) != ((m.at_ : Nat) : Int)) = false := by simp
  clear hM hR
  generalize m.over = mo at *
  generalize m.rcode = mc at *
  generalize m.rbits = mb at *
  generalize m.done = md at *
  generalize m.at_ = ma at *
  go_enter Tryz.func15, Tryz.ntmps15
  go_upto_region 1 with fail
  refine wp_region_bw (w := w) (by kernel_rfl) (by kernel_rfl) ?_
  iterate 36 (refine wpQuiet_step (fun K hK => ?_); go_simp; first | (refine hK _ ?_; clear hK K) | (apply Exists.intro; refine ⟨fun _ => ?_, hK _ ?_⟩; (first | (go_at_call 21; with_reducible exact Calls.quiet_bw_same (KO.out _)) | (go_at_call 25; with_reducible exact Calls.quiet_bw (KR.out _)) | (go_at_call 22; with_reducible exact Calls.quiet_bw_same (KD.out _)) | (go_at_call 23; with_reducible exact Calls.quiet_bw_same (KP.out _))); clear hK K))
  refine wpQuiet_step (fun K hK => ?_); go_simp; apply Exists.intro; refine ⟨fun _ => ?_, hK _ ?_⟩
  go_at_call 24
  with_reducible exact Calls.quiet_bw_same (KL.out _)
  clear hK K
  iterate 4 (refine wpQuiet_step (fun K hK => ?_); go_simp; refine hK _ ?_; clear hK K)
  refine wpQuiet_step (fun K hK => ?_); go_simp; apply Exists.intro; refine ⟨fun _ => ?_, hK _ ?_⟩
  go_at_call 24
  with_reducible exact Calls.quiet_bw_same (KH.out _)
  clear hK K
  iterate 2 (refine wpQuiet_step (fun K hK => ?_); go_simp; refine hK _ ?_; clear hK K)
  refine wpQuiet_nil ?_
  intro yq
  have HB1 := Lib.hid yq.below
  have HM1 := Lib.hid (HM.out.keep yq.below)
  have HR1 := Lib.hid (HR.out.keep yq.below)
  clear d1 d2 d3 d4 d5 KO KR KD KP KL KH hs t1 t2 t3
  generalize yq.val = w1 at *
  clear yq
  go_wp2
  go_loopw [5] (fun x wr => ∃ i : Nat, x = .int .i64 (i : Nat) ∧ i ≤ 8 ∧ Below w1.heap.size w1 wr) (fun x _ => 8 - (intOf x).toNat)
  case atStart => exact ⟨0, rfl, by omega, Below.refl _ _⟩
  case round =>
    obtain ⟨i, rfl, hi, hn⟩ := hrel
    have hMr : Cells wr g 61 _ := HM1.out.keep hn
    have hRr : Cells wr h 63 _ := HR1.out.keep hn
    have HNN := Lib.hid hn
    clear hn
    by_cases hlt : i < 8
    · have i0 : (0 : Int) ≤ (i : Int) := by omega
      have i1 : (i : Int) < 8 := by omega
      have d0 : ∀ k, (wr.drewN k).cell? ⟨h, 4 + i, none⟩ = some (.int .u64 (m.regs.getD i 0 : Nat)) := fun k => (hRr.drewN k).cell (cells_reg m cs2 nv2 pv2 i hlt)
      have d0' := d0 0
      have kr := fun k => reg_any (hMr.drewN k) i hlt
      have t1 : (((m.regs.getD i 0 : Nat) : Int) != ((m.regs.getD i 0 : Nat) : Int)) = false := by simp
      have hw1 : wrap64 ((i : Int) + 1) = (i : Int) + 1 := by unfold wrap64; omega
      have HI := Lib.hid hlt
      have d0'' : wr.cell? ⟨h, 4 + i, none⟩ = some (.int .u64 (m.regs.getD i 0 : Nat)) := d0'
      clear hMr hRr hi hlt d0'
      generalize m.regs.getD i 0 = rv at *
      go_wp2_with fail
      go_quiet ((go_at_call 24; with_reducible exact Calls.quiet_of_same (kr _)))
      go_wp2
      go_roundw
      case rel => exact ⟨i + 1, by go_num, HI.out, below_drewN HNN.out _⟩
      case measure => have := HI.out; simp [intOf]; omega
    · obtain rfl : i = 8 := by omega
      have i1 : ¬ ((8 : Nat) : Int) < 8 := by omega
      clear hMr hRr hi hlt
      go_wp2
      go_ret
      exact ⟨rfl, grow_to HB1.out HNN.out⟩

theorem info_nums : ∃ i, Tryz.prog.info? 25 = some i ∧ i.zero = some (.int .u64 0) ∧ i.size = 1 ∧ i.bytes = 8 := info_split (by kernel_rfl)
theorem nums_some (b n c : Nat) (w : World) : (binOp .eql 58 (.slice (some ⟨b, 0, none⟩) n c) (.slice none 0 0)).run Tryz.prog w = .ok (.bool false) w := by kernel_rfl
theorem nums_none (w : World) : (binOp .eql 58 (.slice none 0 0) (.slice none 0 0)).run Tryz.prog w = .ok (.bool true) w := by kernel_rfl
theorem one_nums (l : List Nat) : ∀ u ∈ l.map U, u.oneCell' = true := by
  intro u hu
  obtain ⟨x, _, rfl⟩ := List.mem_map.1 hu
  rfl
set_option maxHeartbeats 1000000 in
theorem clone_nums {w : World} {v : Value} {l : List Nat} (h : w.ownsRow 0 25 1 v l.length (l.map U)) (hn : l.length ≤ 8) :
    Calls Tryz.prog 29 #[v] w fun e w' => ∃ v', e = .returned v' ∧ w'.ownsRow w.heap.size 25 1 v' l.length (l.map U) ∧ Below w.heap.size w w' := by
  obtain ⟨i1, hq1, hz1, hsz1, hby1⟩ := info_nums
  rcases own_shape h with ⟨rfl, hn0⟩ | ⟨b, cap, rfl, hle⟩
  · obtain rfl : l = [] := List.eq_nil_of_length_eq_zero hn0
    clear h hn hn0 hq1 hz1 hsz1 hby1
    have hnil := nums_none w
    go_enter Tryz.func29, Tryz.ntmps29
    go_wp2
    go_ret
    exact ⟨_, rfl, World.ownsRow_nil _ _ _ _, Below.refl _ _⟩
  · have hal := (Below.refl w.heap.size w).alloc (Nat.le_refl _) (.cells #[] 25)
    have HN := Lib.hid (World.ownsRow.cells (g := b) (own_kept h hal) rfl)
    have HO := Lib.hid (one_nums l)
    have HL := Lib.hid (show (l.map U).length = l.length * 1 by simp)
    have hrow : (w.alloc (.cells #[] 25)).ownsRow w.heap.size 25 1 (.slice (some ⟨w.heap.size, 0, none⟩) 0 0) 0 [] := World.ownsRow_made w #[] 0 (Nat.le_refl _) (by decide) (by simp)
    have HR := Lib.hid hrow
    have HB0 := Lib.hid hal
    have hnil := nums_some b l.length cap
    have HLE := Lib.hid hn
    clear h hn hle hal hrow
    go_enter Tryz.func29, Tryz.ntmps29
    go_upto_region 3 with (fail)
    go_wp2_with (at_builtin; refine wpList_append_own_at _ rfl _ _ _ rfl w.heap.size 25 i1 _ 1 8 Tryz.underlying58 hq1 hz1 hsz1 hby1 rfl (by decide) _ 0 [] rfl HR.out ⟨b, 0, none⟩ l.length cap (l.map U) rfl HL.out HN.out HO.out (by have := HLE.out; unfold maxLen; omega) (by have := HLE.out; omega) (by simp) ?_; intro v' W4 ho hgr hlt hat; have HOO := Lib.hid ho; have HGR := Lib.hid hgr; obtain ⟨Ak, capk, rfl⟩ := own_slice ho; clear ho hgr hlt hat)
    go_ret
    refine ⟨_, rfl, ?_, ?_⟩
    · have h := HOO.out
      simpa using h
    · refine HB0.out.grown HGR.out (by simp) fun k hk => ?_
      have hk' : some w.heap.size = some k := hk
      injection hk' with hk'
      omega

theorem info_ints : ∃ i, Tryz.prog.info? 3 = some i ∧ i.zero = some (.int .i64 0) ∧ i.size = 1 ∧ i.bytes = 8 := info_split (by kernel_rfl)
theorem ints_some (b n c : Nat) (w : World) : (binOp .eql 59 (.slice (some ⟨b, 0, none⟩) n c) (.slice none 0 0)).run Tryz.prog w = .ok (.bool false) w := by kernel_rfl
theorem ints_none (w : World) : (binOp .eql 59 (.slice none 0 0) (.slice none 0 0)).run Tryz.prog w = .ok (.bool true) w := by kernel_rfl
theorem one_ints (l : List Nat) : ∀ u ∈ l.map I, u.oneCell' = true := by
  intro u hu
  obtain ⟨x, _, rfl⟩ := List.mem_map.1 hu
  rfl
set_option maxHeartbeats 1000000 in
theorem clone_ints {w : World} {v : Value} {l : List Nat} (h : w.ownsRow 0 3 1 v l.length (l.map I)) (hn : l.length ≤ 8) :
    Calls Tryz.prog 30 #[v] w fun e w' => ∃ v', e = .returned v' ∧ w'.ownsRow w.heap.size 3 1 v' l.length (l.map I) ∧ Below w.heap.size w w' := by
  obtain ⟨i1, hq1, hz1, hsz1, hby1⟩ := info_ints
  rcases own_shape h with ⟨rfl, hn0⟩ | ⟨b, cap, rfl, hle⟩
  · obtain rfl : l = [] := List.eq_nil_of_length_eq_zero hn0
    clear h hn hn0 hq1 hz1 hsz1 hby1
    have hnil := ints_none w
    go_enter Tryz.func30, Tryz.ntmps30
    go_wp2
    go_ret
    exact ⟨_, rfl, World.ownsRow_nil _ _ _ _, Below.refl _ _⟩
  · have hal := (Below.refl w.heap.size w).alloc (Nat.le_refl _) (.cells #[] 3)
    have HN := Lib.hid (World.ownsRow.cells (g := b) (own_kept h hal) rfl)
    have HO := Lib.hid (one_ints l)
    have HL := Lib.hid (show (l.map I).length = l.length * 1 by simp)
    have hrow : (w.alloc (.cells #[] 3)).ownsRow w.heap.size 3 1 (.slice (some ⟨w.heap.size, 0, none⟩) 0 0) 0 [] := World.ownsRow_made w #[] 0 (Nat.le_refl _) (by decide) (by simp)
    have HR := Lib.hid hrow
    have HB0 := Lib.hid hal
    have hnil := ints_some b l.length cap
    have HLE := Lib.hid hn
    clear h hn hle hal hrow
    go_enter Tryz.func30, Tryz.ntmps30
    go_upto_region 3 with (fail)
    go_wp2_with (at_builtin; refine wpList_append_own_at _ rfl _ _ _ rfl w.heap.size 3 i1 _ 1 8 Tryz.underlying59 hq1 hz1 hsz1 hby1 rfl (by decide) _ 0 [] rfl HR.out ⟨b, 0, none⟩ l.length cap (l.map I) rfl HL.out HN.out HO.out (by have := HLE.out; unfold maxLen; omega) (by have := HLE.out; omega) (by simp) ?_; intro v' W4 ho hgr hlt hat; have HOO := Lib.hid ho; have HGR := Lib.hid hgr; obtain ⟨Ak, capk, rfl⟩ := own_slice ho; clear ho hgr hlt hat)
    go_ret
    refine ⟨_, rfl, ?_, ?_⟩
    · have h := HOO.out
      simpa using h
    · refine HB0.out.grown HGR.out (by simp) fun k hk => ?_
      have hk' : some w.heap.size = some k := hk
      injection hk' with hk'
      omega

/-- a clone of the machine: a block and rows of its own -/
def Cloned (w w' : World) (g' : Nat) (nv' pv' : Value) : Prop := w.heap.size ≤ g' ∧ (∀ k, nv'.ownBlock = some k → w.heap.size ≤ k) ∧ (∀ k, pv'.ownBlock = some k → w.heap.size ≤ k) ∧ Below w.heap.size w w'
theorem own_not_lt {w : World} {base : Nat} {e : TypeId} {size : Nat} {v : Value} {n : Nat} {xs : List Value} (h : w.ownsRow base e size v n xs) : ∀ k, v.ownBlock = some k → base ≤ k := fun k hk => (h.lt k hk).1

theorem set_pair {wz : World} {Bn b1 b2 n1 n2 i j : Nat} {T t1 t2 : TypeId} {c : Array Value} {v1 v2 u1 u2 : Value} {xs1 xs2 : List Value} (hc : Cells wz Bn T c) (h1 : wz.ownsRow b1 t1 1 v1 n1 xs1) (h2 : wz.ownsRow b2 t2 1 v2 n2 xs2) (e1 : t1 ≠ T) (e2 : t2 ≠ T) :
    Cells ((wz.setCell ⟨Bn, i, none⟩ u1).setCell ⟨Bn, j, none⟩ u2) Bn T ((c.setIfInBounds i u1).setIfInBounds j u2) ∧ ((wz.setCell ⟨Bn, i, none⟩ u1).setCell ⟨Bn, j, none⟩ u2).ownsRow b1 t1 1 v1 n1 xs1 ∧ ((wz.setCell ⟨Bn, i, none⟩ u1).setCell ⟨Bn, j, none⟩ u2).ownsRow b2 t2 1 v2 n2 xs2 := by
  have ht : Turns [Bn] wz ((wz.setCell ⟨Bn, i, none⟩ u1).setCell ⟨Bn, j, none⟩ u2) := ((Turns.refl _ _).set (.inl (by simp)) _).set (.inl (by simp)) _
  refine ⟨(hc.set i u1).set j u2, row_turns h1 ht fun k hk => ?_, row_turns h2 ht fun k hk => ?_⟩
  · simpa using own_ne_block h1 hc e1 k hk
  · simpa using own_ne_block h2 hc e2 k hk
/-- a load of a whole block's value; the block that was made last, written whole -/
theorem wpList_load_row {P : Program} {w : World} {ops : Array Oper} {rest : List Oper} {o : Oper} {a : Act} {Q : Exit → Act → World → Prop} (hgd : o.guard = none) (p : Operand) (t : TypeId) (ho : o.op = .load t p) {g : Nat} {cs : Array Value} {t' : TypeId} {fr : Nat × Nat} {d : TypeDesc}
    (hp : a.eval p = .pointer (some ⟨g, 0, none⟩)) (hg : w.heap[g]? = some (.cells cs t' fr)) (hu : P.underlying t = some d) (hd : (match d with | .struct _ | .array _ _ => true | _ => false) = true) (hi : (P.info? t).map (·.size) = some cs.size)
    (h : wpList P ops Q rest (a.put o.dst (.agg cs)) w) : wpList P ops Q (o :: rest) a w := by
  refine wpList_plain hgd fun K hK => ?_
  have hrun := run_loadVar_row w g t' t cs fr d hg hu hd hi
  unfold Oper.wp
  simp only [execOp, ho, hp, Instr.loadAt, Instr.sureAddr, Sem.run_bind, Sem.run_pure, Result.andThen, hrun]
  exact hK _ _ h
theorem wpList_store_new {P : Program} {w : World} {ops : Array Oper} {rest : List Oper} {o : Oper} {a : Act} {Q : Exit → Act → World → Prop} (hgd : o.guard = none) (p x : Operand) (t : TypeId) (ho : o.op = .store t p x) {c c' : Array Value}
    (hp : a.eval p = .pointer (some ⟨w.heap.size, 0, none⟩)) (hx : a.eval x = .agg c') (hi : (P.info? t).map (·.size) = some c'.size) (hc : c.size = c'.size) (h1 : c'.all (·.oneCell') = true)
    (h : ∀ v, wpList P ops Q rest (a.put o.dst v) (w.alloc (.cells c' t))) : wpList P ops Q (o :: rest) a (w.alloc (.cells c t)) := by
  refine wpList_plain hgd fun K hK => ?_
  have hrun := run_storeAt_new w t c c' hi hc h1
  unfold Oper.wp
  simp only [execOp, ho, hp, hx, hrun, Sem.run_bind, Sem.run_pure, Result.andThen]
  exact hK _ _ (h _)
theorem mach_one {m : Mach} {A1 A2 A3 : Option Addr} {n1 n2 n3 c1 c2 c3 : Nat} : (m.cells (.slice A1 n1 c1) (.slice A2 n2 c2) (.slice A3 n3 c3)).all (·.oneCell') = true := by
  simp [Mach.cells, Value.oneCell']
set_option maxHeartbeats 4000000 in
set_option maxRecDepth 100000 in
theorem clone_cells {w : World} {g : Nat} {Ac An Ap : Option Addr} {nc cc nn cn np cp : Nat} {m : Mach} (hM : Mw w g (.slice Ac nc cc) (.slice An nn cn) (.slice Ap np cp) m) (h1 : m.nums.length ≤ 8) (h2 : m.places.length ≤ 8) :
    Calls Tryz.prog 12 #[.pointer (some ⟨g, 0, none⟩)] w fun e w' => ∃ g' nv' pv', e = .returned (.pointer (some ⟨g', 0, none⟩)) ∧ Cloned w w' g' nv' pv' ∧ Mw w' g' (.slice Ac nc cc) nv' pv' m := by
  obtain ⟨MC, hMC⟩ : ∃ MC, m.cells (.slice Ac nc cc) (.slice An nn cn) (.slice Ap np cp) = MC := ⟨_, rfl⟩
  have hsz : MC.size = 19 := by rw [← hMC]; rfl
  have hone : MC.all (·.oneCell') = true := by rw [← hMC]; exact mach_one
  have hal := (Below.refl w.heap.size w).alloc (Nat.le_refl _) (.cells MC 61)
  have HB1 := Lib.hid hal
  have HX1 := Lib.hid (Cells.new w 61 MC)
  have HM1 := Lib.hid (hM.keep hal)
  have HG : Hid (Cells w g 61 MC) := Lib.hid (hMC ▸ hM.cells)
  have HLT := Lib.hid hM.lt
  have HL := Lib.hid (And.intro h1 h2)
  have HMC := Lib.hid hMC
  have HSZ := Lib.hid (And.intro hsz hone)
  clear hal hM h1 h2 hMC hsz hone
  go_enter Tryz.func12, Tryz.ntmps12
  go_upto_region 1 with fail
  refine wp_region_lit ?_
  iterate 2 (refine wpList_plain rfl (fun K hK => ?_); go_simp; refine hK _ _ ?_; clear hK K)
  refine wpList_load_row rfl _ _ rfl rfl HG.out Tryz.underlying61 rfl (by rw [HSZ.out.1]; kernel_rfl) ?_
  refine wpList_plain rfl (fun K hK => ?_)
  go_simp
  refine hK _ _ ?_
  clear hK K
  refine wpList_store_new rfl _ _ _ rfl rfl rfl (by rw [HSZ.out.1]; kernel_rfl) (by rw [HSZ.out.1]; rfl) HSZ.out.2 (fun v => ?_)
  go_simp
  clear v
  simp only [wpList]
  have KN := Lib.hid fun (W : World) (hW : Below (w.alloc (.cells MC 61)).heap.size (w.alloc (.cells MC 61)) W) => clone_nums (own_kept HM1.out.nums hW) HL.out.1
  have KP := Lib.hid fun (W : World) (hW : Below (w.alloc (.cells MC 61)).heap.size (w.alloc (.cells MC 61)) W) => clone_ints (own_kept HM1.out.places hW) HL.out.2
  have HC : Hid (∀ W, Below (w.alloc (.cells MC 61)).heap.size (w.alloc (.cells MC 61)) W → W.cell? ⟨g, 12, none⟩ = some (.slice An nn cn) ∧ W.cell? ⟨g, 13, none⟩ = some (.slice Ap np cp) ∧ Cells W w.heap.size 61 MC) := Lib.hid fun W hW => ⟨(HM1.out.keep hW).cells.cell (j := 12) rfl, (HM1.out.keep hW).cells.cell (j := 13) rfl, HX1.out.keep hW⟩
  have HMM := Lib.hid HM1.out
  have HSA := Lib.hid HB1.out.size
  have HBB := Lib.hid HB1.out
  clear HM1 HX1 HB1 HG HLT HL
  generalize w.alloc (.cells MC 61) = wa at *
  have c12 := (HC.out _ (Below.refl _ _)).1
  have c13 := (HC.out _ (Below.refl _ _)).2.1
  have HB0 : Hid (Below wa.heap.size wa wa.drew) := Lib.hid ⟨rfl, rfl, rfl, Nat.le_refl _, fun _ _ => rfl⟩
  go_upto_region 2 with fail
  have HZ : Hid (∀ v : Value, MC[12]? = some (.slice An nn cn) ∧ MC[13]? = some (.slice Ap np cp)) := Lib.hid fun _ => by rw [← HMC.out]; exact ⟨rfl, rfl⟩
  go_region_with ((first
    | (go_at_call 29; (first | (refine (KN.out _ HBp.out).mono ?_) | (refine (KN.out _ HB0.out).mono ?_)); rintro _ wn ⟨vn, rfl, hvn, hbn⟩; obtain ⟨An', cn', rfl⟩ := own_slice hvn; have HVn := Lib.hid hvn; (first | (have HBn := Lib.hid (grow_to HBp.out hbn); have HVp' := Lib.hid (own_kept HVp.out hbn)) | (have HBn := Lib.hid (grow_to HB0.out hbn))); obtain ⟨d12, d13, hx⟩ := HC.out _ HBn.out; have z12 := hx.cell (HZ.out undef).1; have z13 := hx.cell (HZ.out undef).2; have f12 := hx.fz 12; have f13 := hx.fz 13; clear hvn hbn hx)
    | (go_at_call 30; (first | (refine (KP.out _ HBn.out).mono ?_) | (refine (KP.out _ HB0.out).mono ?_)); rintro _ wp ⟨vp, rfl, hvp, hbp⟩; obtain ⟨Ap', cp', rfl⟩ := own_slice hvp; have HVp := Lib.hid hvp; (first | (have HBp := Lib.hid (grow_to HBn.out hbp); have HVn' := Lib.hid (own_kept HVn.out hbp)) | (have HBp := Lib.hid (grow_to HB0.out hbp))); obtain ⟨d12, d13, hx⟩ := HC.out _ HBp.out; have z12 := hx.cell (HZ.out undef).1; have z13 := hx.cell (HZ.out undef).2; have f12 := hx.fz 12; have f13 := hx.fz 13; clear hvp hbp hx)))
  all_goals (
    go_wp2
    go_ret
    obtain ⟨e1, e2, e3⟩ := set_pair (u1 := .slice An' m.nums.length cn') (u2 := .slice Ap' m.places.length cp') (i := 12) (j := 13) (HC.out _ HBp.out).2.2 HVn'.out HVp.out (by decide) (by decide)
    have hS : Turns [w.heap.size] wp ((wp.setCell ⟨w.heap.size, 12, none⟩ (.slice An' m.nums.length cn')).setCell ⟨w.heap.size, 13, none⟩ (.slice Ap' m.places.length cp')) := ((Turns.refl _ _).set (.inl (by simp)) _).set (.inl (by simp)) _
    refine ⟨w.heap.size, .slice An' m.nums.length cn', .slice Ap' m.places.length cp', rfl, ⟨Nat.le_refl _, fun k hk => ?_, fun k hk => ?_, ?_⟩, ⟨?_, ?_, e2.mono (Nat.zero_le _), e3.mono (Nat.zero_le _)⟩⟩
    · have h1 := (HVn.out.lt k hk).1
      have h2 := HSA.out
      have h3 := HB0.out.size
      omega
    · have h1 := (HVp.out.lt k hk).1
      have h2 := HSA.out
      have h3 := HBn.out.size
      omega
    · exact (grow_to HBB.out HBp.out).trans (hS.below (grow_to HBB.out HBp.out).size (by simp))
    · rw [← HMC.out] at e1
      exact e1
    · refine row_turns (own_kept HMM.out.code HBp.out) hS fun k hk => ?_
      simpa using own_ne_block (own_kept HMM.out.code HBp.out) (HC.out _ HBp.out).2.2 (by decide) k hk)
theorem clone_any {w : World} {g : Nat} {cs nv pv : Value} {m : Mach} (hM : Mw w g cs nv pv m) (h1 : m.nums.length ≤ 8) (h2 : m.places.length ≤ 8) :
    Calls Tryz.prog 12 #[.pointer (some ⟨g, 0, none⟩)] w fun e w' => ∃ g' nv' pv', e = .returned (.pointer (some ⟨g', 0, none⟩)) ∧ Cloned w w' g' nv' pv' ∧ Mw w' g' cs nv' pv' m := by
  obtain ⟨Ac, cc, rfl⟩ := own_slice hM.code
  obtain ⟨An, cn, rfl⟩ := own_slice hM.nums
  obtain ⟨Ap, cp, rfl⟩ := own_slice hM.places
  exact clone_cells hM h1 h2

theorem ownL_ne {w : World} {b1 b2 z1 z2 n1 n2 : Nat} {t1 t2 : TypeId} {v1 v2 : Value} {xs1 xs2 : List Value} (h1 : w.ownsRow b1 t1 z1 v1 n1 xs1) (h2 : w.ownsRow b2 t2 z2 v2 n2 xs2) (hne : t1 ≠ t2) : ∀ k, v2.ownBlock = some k → ∀ j, v1.ownBlock = some j → k ≠ j := by
  intro k hk j hj e
  subst e
  obtain ⟨c1, hc1⟩ := own_block_type h1 hj
  obtain ⟨c2, hc2⟩ := own_block_type h2 hk
  exact block_ne hc1 hc2 hne rfl
/-- append(s, l...): l another row (nil too) -/
theorem wpList_append_row {P : Program} {w : World} {ops : Array Oper} {rest : List Oper} {o : Oper} {a : Act} {Q : Exit → Act → World → Prop} (hgd : o.guard = none) (s x : Operand) (t : TypeId)
    (ho : o.op = .call { callee := .builtin .append, args := #[s, x], argTypes := #[t, t] })
    (base : Nat) (e : TypeId) (i : TypeInfo) (z : Value) (size bytes : Nat) (ht : P.underlying t = some (.slice e)) (hi : P.info? e = some i) (hz : i.zero = some z)
    (hsize : i.size = size) (hby : i.bytes = bytes) (hzs : z.cells.size = size) (hsz : 0 < size)
    (v : Value) (n : Nat) (xs : List Value) (hs : a.eval s = v) (hown : w.ownsRow base e size v n xs)
    {b2 m : Nat} {v2 : Value} {ys : List Value} (hx : a.eval x = v2) (hown2 : w.ownsRow b2 e size v2 m ys) (h1 : ∀ u ∈ ys, u.oneCell' = true)
    (h63 : n + m ≤ maxLen) (hbytes : (n + m) * bytes ≤ 140737488355328) (hbase : base ≤ w.heap.size)
    (h : ∀ v' w', w'.ownsRow base e size v' (n + m) (xs ++ ys) → w.grownBy w' v.ownBlock → (v'.ownBlock = v.ownBlock ∨ v'.ownBlock = some w.heap.size) → wpList P ops Q rest (a.put o.dst v') w') :
    wpList P ops Q (o :: rest) a w := by
  rcases own_shape hown2 with ⟨rfl, rfl⟩ | ⟨b, cap, rfl, _⟩
  · have hys : ys = [] := by
      have := hown2.1
      simpa using this
    subst hys
    exact wpList_append_own_none hgd s x t ho base e i size ht hi v n xs hs hown hx (h v w (by simpa using hown) (World.grownBy.refl w _) (.inl rfl))
  · exact wpList_append_own_at w hgd s x t ho base e i z size bytes ht hi hz hsize hby hzs hsz v n xs hs hown ⟨b, 0, none⟩ m cap ys hx hown2.1 (World.ownsRow.cells (g := b) hown2 rfl) h1 h63 hbytes hbase fun v' w' q1 q2 _ q3 => h v' w' q1 q2 q3

set_option maxHeartbeats 4000000 in
set_option maxRecDepth 100000 in
theorem rclone_cells {w : World} {g : Nat} {Ac An Ap : Option Addr} {nc cc nn cn np cp : Nat} {m : Mach} (hM : Rw w g (.slice Ac nc cc) (.slice An nn cn) (.slice Ap np cp) m) (h1 : m.nums.length ≤ 8) (h2 : m.places.length ≤ 8) :
    Calls Tryz.prog 13 #[.pointer (some ⟨g, 0, none⟩)] w fun e w' => ∃ g' nv' pv', e = .returned (.pointer (some ⟨g', 0, none⟩)) ∧ Cloned w w' g' nv' pv' ∧ Rw w' g' (.slice Ac nc cc) nv' pv' m := by
  obtain ⟨MC, hMC⟩ : ∃ MC, m.cells (.slice Ac nc cc) (.slice An nn cn) (.slice Ap np cp) = MC := ⟨_, rfl⟩
  have hsz : MC.size = 19 := by rw [← hMC]; rfl
  have hone : MC.all (·.oneCell') = true := by rw [← hMC]; exact mach_one
  have hal := (Below.refl w.heap.size w).alloc (Nat.le_refl _) (.cells MC 63)
  have HB1 := Lib.hid hal
  have HX1 := Lib.hid (Cells.new w 63 MC)
  have HM1 := Lib.hid (hM.keep hal)
  have HG : Hid (Cells w g 63 MC) := Lib.hid (hMC ▸ hM.cells)
  have HL := Lib.hid (And.intro h1 h2)
  have HMC := Lib.hid hMC
  have HSZ := Lib.hid (And.intro hsz hone)
  obtain ⟨i1, hq1, hz1, hsz1, hby1⟩ := info_nums
  obtain ⟨i2, hq2, hz2, hsz2, hby2⟩ := info_ints
  clear hal hM h1 h2 hMC hsz hone
  go_enter Tryz.func13, Tryz.ntmps13
  go_upto_region 1 with fail
  refine wp_region_lit ?_
  iterate 2 (refine wpList_plain rfl (fun K hK => ?_); go_simp; refine hK _ _ ?_; clear hK K)
  refine wpList_load_row rfl _ _ rfl rfl HG.out Tryz.underlying63 rfl (by rw [HSZ.out.1]; kernel_rfl) ?_
  refine wpList_plain rfl (fun K hK => ?_)
  go_simp
  refine hK _ _ ?_
  clear hK K
  refine wpList_store_new rfl _ _ _ rfl rfl rfl (by rw [HSZ.out.1]; kernel_rfl) (by rw [HSZ.out.1]; rfl) HSZ.out.2 (fun v => ?_)
  go_simp
  clear v
  simp only [wpList]
  have HMM := Lib.hid HM1.out
  have HSA := Lib.hid HB1.out.size
  have HLT := Lib.hid (show g < w.heap.size from HG.out.lt)
  have HBB := Lib.hid HB1.out
  have HXX := Lib.hid HX1.out
  have HGE : Hid ((∀ k, (Value.slice An nn cn).ownBlock = some k → k < (w.alloc (.cells MC 63)).heap.size) ∧ (∀ k, (Value.slice Ap np cp).ownBlock = some k → k < (w.alloc (.cells MC 63)).heap.size)) := Lib.hid ⟨fun k hk => (HM1.out.nums.lt k hk).2, fun k hk => (HM1.out.places.lt k hk).2⟩
  clear HM1 HX1 HB1 HG
  generalize w.alloc (.cells MC 63) = wa at *
  go_upto_region 3 with fail
  have hal1 := (Below.refl wa.heap.size wa).alloc (Nat.le_refl _) (.cells #[] 25)
  have hal2 := hal1.alloc (by simp) (.cells #[] 3)
  have e1 : (wa.alloc (.cells #[] 25)).heap.size = wa.heap.size + 1 := by simp
  have hr1 : (wa.alloc (.cells #[] 25)).ownsRow wa.heap.size 25 1 (.slice (some ⟨wa.heap.size, 0, none⟩) 0 0) 0 [] := World.ownsRow_made wa #[] 0 (Nat.le_refl _) (by decide) (by simp)
  have hr2 : ((wa.alloc (.cells #[] 25)).alloc (.cells #[] 3)).ownsRow wa.heap.size 3 1 (.slice (some ⟨wa.heap.size + 1, 0, none⟩) 0 0) 0 [] := e1 ▸ World.ownsRow_made (wa.alloc (.cells #[] 25)) #[] 0 (by simp) (by decide) (by simp)
  have HR1 := Lib.hid (hr1.alloc (.cells #[] 3))
  have HR2 := Lib.hid hr2
  have HBC := Lib.hid (HBB.out.trans (hal2.mono HBB.out.size))
  have HMC2 := Lib.hid (HMM.out.keep hal2)
  have HXC := Lib.hid (HXX.out.keep hal2)
  have HSB : Hid (wa.heap.size ≤ ((wa.alloc (.cells #[] 25)).alloc (.cells #[] 3)).heap.size) := Lib.hid hal2.size
  clear hal1 hal2 e1 hr1 hr2 HMM HXX HBB
  generalize (wa.alloc (.cells #[] 25)).alloc (.cells #[] 3) = wb at *
  generalize wa.heap.size = Ba at *
  have c12 : wb.cell? ⟨g, 12, none⟩ = some (.slice An nn cn) := HMC2.out.cells.cell (j := 12) rfl
  refine wp_region_lit ?_
  iterate 5 (refine wpList_plain rfl (fun K hK => ?_); go_simp; refine hK _ _ ?_; clear hK K)
  refine wpList_append_row rfl _ _ _ rfl Ba 25 i1 _ 1 8 Tryz.underlying58 hq1 hz1 hsz1 hby1 rfl (by decide) _ 0 [] rfl HR1.out rfl HMC2.out.nums (one_nums _) (by have := HL.out.1; unfold maxLen; omega) (by have := HL.out.1; omega) HSB.out ?_
  intro v1 w1 ho1 hg1 hat1
  simp only [Nat.zero_add, List.nil_append] at ho1
  have ht1 := grown_turns (S := [Ba]) hg1 (fun k hk => by have hk' : some Ba = some k := hk; injection hk' with hk'; simp [hk'])
  have hr2 := row_turns HR2.out ht1 fun k hk => by have hk' : some (Ba + 1) = some k := hk; injection hk' with hk'; simp; omega
  have hm1 : Rw w1 g (.slice Ac nc cc) (.slice An nn cn) (.slice Ap np cp) m := HMC2.out.turns ht1 (by have := HMC2.out.lt; have h2 := own_ne_block HR1.out HMC2.out.cells (by decide) Ba rfl; simp; omega) (fun k hk => by have := ownL_ne HR1.out HMC2.out.code (by decide) k hk Ba rfl; simpa using this) (fun k hk => by have := HGE.out.1 k hk; simp; omega) (fun k hk => by have := ownL_ne HR1.out HMC2.out.places (by decide) k hk Ba rfl; simpa using this)
  have hx1 := HXC.out.turns ht1 (by have := own_ne_block HR1.out HXC.out (by decide) Ba rfl; simp; omega)
  obtain ⟨A1, c1, rfl⟩ := own_slice ho1
  have hz : MC[12]? = some (.slice An nn cn) ∧ MC[13]? = some (.slice Ap np cp) := by rw [← HMC.out]; exact ⟨rfl, rfl⟩
  have HZ := Lib.hid hz
  have z12 := hx1.cell hz.1
  have f12 := hx1.fz 12
  have hs1 : Turns [w.heap.size] w1 (w1.setCell ⟨w.heap.size, 12, none⟩ (.slice A1 m.nums.length c1)) := (Turns.refl _ _).set (.inl (by simp)) _
  have far : ∀ {b z n : Nat} {t : TypeId} {v : Value} {xs : List Value}, w1.ownsRow b t z v n xs → t ≠ 63 → (w1.setCell ⟨w.heap.size, 12, none⟩ (.slice A1 m.nums.length c1)).ownsRow b t z v n xs := fun h he => row_turns h hs1 fun k hk => by simpa using own_ne_block h hx1 he k hk
  have hne : g ≠ w.heap.size := by
    have := HLT.out
    omega
  have HM3 : Hid (Rw (w1.setCell ⟨w.heap.size, 12, none⟩ (.slice A1 m.nums.length c1)) g (.slice Ac nc cc) (.slice An nn cn) (.slice Ap np cp) m) := Lib.hid ⟨hm1.cells.turns hs1 (by simpa using hne), far hm1.code (by decide), far hm1.nums (by decide), far hm1.places (by decide)⟩
  have HR3 := Lib.hid (far hr2 (by decide))
  have HV3 := Lib.hid (far ho1 (by decide))
  have HX3 := Lib.hid (hx1.set 12 (.slice A1 m.nums.length c1))
  have HB3 : Hid (Below w.heap.size w (w1.setCell ⟨w.heap.size, 12, none⟩ (.slice A1 m.nums.length c1))) := Lib.hid ((HBC.out.trans (ht1.below HBC.out.size (fun x hx => by simp at hx; rw [hx]; exact HSA.out))).setCell (Nat.le_refl _) _)
  have HS3 : Hid (Ba ≤ (w1.setCell ⟨w.heap.size, 12, none⟩ (.slice A1 m.nums.length c1)).heap.size) := Lib.hid (by have := ht1.size; have := HSB.out; simp [World.setCell]; omega)
  have HC1 : Hid (∀ k, (Value.slice A1 m.nums.length c1).ownBlock = some k → Ba ≤ k) := Lib.hid fun k hk => (ho1.lt k hk).1
  clear ho1 hg1 hat1 ht1 hr2 hm1 hx1 far hs1 hne hz HR1 HR2 HSB HMC2 HXC HBC c12
  iterate 2 (refine wpList_plain rfl (fun K hK => ?_); go_simp; refine hK _ _ ?_; clear hK K)
  simp only [wpList]
  clear z12 f12
  generalize w1.setCell ⟨w.heap.size, 12, none⟩ (.slice A1 m.nums.length c1) = wc at *
  go_upto_region 4 with fail
  have c13 : wc.cell? ⟨g, 13, none⟩ = some (.slice Ap np cp) := HM3.out.cells.cell (j := 13) rfl
  refine wp_region_lit ?_
  iterate 5 (refine wpList_plain rfl (fun K hK => ?_); go_simp; refine hK _ _ ?_; clear hK K)
  refine wpList_append_row rfl _ _ _ rfl Ba 3 i2 _ 1 8 Tryz.underlying59 hq2 hz2 hsz2 hby2 rfl (by decide) _ 0 [] rfl HR3.out rfl HM3.out.places (one_ints _) (by have := HL.out.2; unfold maxLen; omega) (by have := HL.out.2; omega) HS3.out ?_
  intro v2 w2 ho2 hg2 hat2
  simp only [Nat.zero_add, List.nil_append] at ho2
  have ht2 := grown_turns (S := [Ba + 1]) hg2 (fun k hk => by have hk' : some (Ba + 1) = some k := hk; injection hk' with hk'; simp [hk'])
  have hv2 := row_turns HV3.out ht2 (fun k hk => by have := ownL_ne HR3.out HV3.out (by decide) k hk (Ba + 1) rfl; simpa using this)
  have hc2 := row_turns HM3.out.code ht2 (fun k hk => by have := ownL_ne HR3.out HM3.out.code (by decide) k hk (Ba + 1) rfl; simpa using this)
  have hx2 := HX3.out.turns ht2 (by have := HSA.out; simp; omega)
  obtain ⟨A2, c2, rfl⟩ := own_slice ho2
  have z13 : w2.cell? ⟨w.heap.size, 13, none⟩ = some (.slice Ap np cp) := hx2.cell (by rw [Array.getElem?_setIfInBounds_ne (by decide)]; exact HZ.out.2)
  have f13 := hx2.fz 13
  have hs2 : Turns [w.heap.size] w2 (w2.setCell ⟨w.heap.size, 13, none⟩ (.slice A2 m.places.length c2)) := (Turns.refl _ _).set (.inl (by simp)) _
  have far : ∀ {b z n : Nat} {t : TypeId} {v : Value} {xs : List Value}, w2.ownsRow b t z v n xs → t ≠ 63 → (w2.setCell ⟨w.heap.size, 13, none⟩ (.slice A2 m.places.length c2)).ownsRow b t z v n xs := fun h he => row_turns h hs2 fun k hk => by simpa using own_ne_block h hx2 he k hk
  have HE : Hid (Rw (w2.setCell ⟨w.heap.size, 13, none⟩ (.slice A2 m.places.length c2)) w.heap.size (.slice Ac nc cc) (.slice A1 m.nums.length c1) (.slice A2 m.places.length c2) m) := Lib.hid ⟨by have h1 := hx2.set 13 (.slice A2 m.places.length c2); rw [← HMC.out] at h1; exact h1, far hc2 (by decide), World.ownsRow.mono (far hv2 (by decide)) (Nat.zero_le _), World.ownsRow.mono (far ho2 (by decide)) (Nat.zero_le _)⟩
  have HB4 : Hid (Below w.heap.size w (w2.setCell ⟨w.heap.size, 13, none⟩ (.slice A2 m.places.length c2))) := Lib.hid ((HB3.out.trans (ht2.below HB3.out.size (fun x hx => by simp at hx; have := HSA.out; omega))).setCell (Nat.le_refl _) _)
  have HC2 : Hid (∀ k, (Value.slice A2 m.places.length c2).ownBlock = some k → Ba ≤ k) := Lib.hid fun k hk => (ho2.lt k hk).1
  clear ho2 hg2 hat2 ht2 hv2 hc2 hx2 far hs2 HR3 HV3 HX3 HB3 HM3 c13
  iterate 2 (refine wpList_plain rfl (fun K hK => ?_); go_simp; refine hK _ _ ?_; clear hK K)
  simp only [wpList]
  clear z13 f13
  generalize w2.setCell ⟨w.heap.size, 13, none⟩ (.slice A2 m.places.length c2) = wd at *
  go_wp2
  go_ret
  exact ⟨_, _, _, rfl, ⟨Nat.le_refl _, fun k hk => Nat.le_trans HSA.out (HC1.out k hk), fun k hk => Nat.le_trans HSA.out (HC2.out k hk), HB4.out⟩, HE.out⟩
theorem rclone_any {w : World} {g : Nat} {cs nv pv : Value} {m : Mach} (hM : Rw w g cs nv pv m) (h1 : m.nums.length ≤ 8) (h2 : m.places.length ≤ 8) :
    Calls Tryz.prog 13 #[.pointer (some ⟨g, 0, none⟩)] w fun e w' => ∃ g' nv' pv', e = .returned (.pointer (some ⟨g', 0, none⟩)) ∧ Cloned w w' g' nv' pv' ∧ Rw w' g' cs nv' pv' m := by
  obtain ⟨Ac, cc, rfl⟩ := own_slice hM.code
  obtain ⟨An, cn, rfl⟩ := own_slice hM.nums
  obtain ⟨Ap, cp, rfl⟩ := own_slice hM.places
  exact rclone_cells hM h1 h2
end Go.Proofs.YtjloiclbknfomaaGreatDoor
