/- (*interp.Machine).do: push, pop, emit, write (contracts). -/
import Derived.Test.YtjloiclbknfomaaGreatDoorKd
set_option maxRecDepth 100000
namespace Go.Proofs.YtjloiclbknfomaaGreatDoor
open Go.RowKit Ieee

theorem grown_anew {w : World} {nv : Value} {g' n cap' H : Nat} (hat : nv.ownBlock = some g' ∨ g' = H) (hH : w.heap.size ≤ H) : Anew w nv (.slice (some ⟨g', 0, none⟩) n cap') := by
  rcases hat with h | h
  · exact .inl (by rw [h]; rfl)
  · exact .inr ⟨g', rfl, by omega⟩
theorem grown_turns {wq W4 : World} {nv : Value} {S : List Nat} (hgr : wq.grownBy W4 nv.ownBlock) (hS : ∀ k, nv.ownBlock = some k → k ∈ S) : Turns S wq W4 :=
  ⟨hgr.os, hgr.tape, hgr.output, hgr.size, fun k hk hn => hgr.block k hk fun e => hn (hS k e.symm)⟩
theorem cells_grown {wq W4 : World} {nv : Value} {t t' : TypeId} {base size n B : Nat} {xs : List Value} {c : Array Value} (hgr : wq.grownBy W4 nv.ownBlock) (hrow : wq.ownsRow base t size nv n xs) (hc : Cells wq B t' c) (hne : t ≠ t') : Cells W4 B t' c :=
  Cells.grown hc hgr fun e => own_ne_block hrow hc hne B e.symm rfl
theorem pushed {wq W4 : World} {g : Nat} {cs nv pv : Value} {m : Mach} {r g' cap' : Nat} (h : Mw wq g cs nv pv m) (ho : W4.ownsRow 0 25 1 (.slice (some ⟨g', 0, none⟩) (m.nums.length + 1) cap') (m.nums.length + 1) (m.nums.map U ++ [.int .u64 (r : Nat)])) (hgr : wq.grownBy W4 nv.ownBlock) :
    Mw (W4.setCell ⟨g, 12, none⟩ (.slice (some ⟨g', 0, none⟩) (m.nums.length + 1) cap')) g cs (.slice (some ⟨g', 0, none⟩) (m.nums.length + 1) cap') pv { m with nums := m.nums ++ [r] } ∧ Turns (mOwn g nv pv) wq (W4.setCell ⟨g, 12, none⟩ (.slice (some ⟨g', 0, none⟩) (m.nums.length + 1) cap')) := by
  have hc := cells_grown hgr h.nums h.cells (by decide)
  have ht : Turns (mOwn g nv pv) wq W4 := grown_turns hgr fun k hk => mOwn_n hk
  have hts : Turns [g] W4 (W4.setCell ⟨g, 12, none⟩ (.slice (some ⟨g', 0, none⟩) (m.nums.length + 1) cap')) := (Turns.refl _ _).set (.inl (by simp)) _
  have a := own_ne_block h.code h.cells (by decide)
  have b := own_ne_block h.places h.cells (by decide)
  have c := own_ne_own h.nums h.code (by decide)
  have d := own_ne_own h.nums h.places (by decide)
  have hx : (m.nums.map U ++ [.int .u64 (r : Nat)]) = (m.nums ++ [r]).map U := by simp [U]
  rw [hx] at ho
  refine ⟨⟨hc.set 12 _, ?_, ?_, ?_⟩, ht.trans (hts.mono fun x hx => .inl (mOwn_only g nv pv hx))⟩
  · refine row_turns (h.code.kept hgr ?_) hts fun k hk => by simpa using a k hk
    cases hk : cs.ownBlock with
    | none => exact .inl rfl
    | some k => exact .inr fun e => c k k e.symm hk rfl
  · have hne := own_ne_block ho hc (by decide)
    have := row_turns ho hts fun k hk => by simpa using hne k hk
    simpa using this
  · refine row_turns (h.places.kept hgr ?_) hts fun k hk => by simpa using b k hk
    cases hk : pv.ownBlock with
    | none => exact .inl rfl
    | some k => exact .inr fun e => d k k e.symm hk rfl
theorem popped {w : World} {g : Nat} {cs pv : Value} {m : Mach} {A : Option Addr} {n cap a : Nat} (h : Mw w g cs (.slice A (n + 1) cap) pv m) (hn : m.nums.length = n + 1) (ha : a < 8) (hr : m.regs.length = 8) :
    Mw ((w.setCell ⟨g, 4 + a, none⟩ (.int .u64 (m.nums.getLastD 0 : Nat))).setCell ⟨g, 12, none⟩ (.slice A n cap)) g cs (.slice A n cap) pv { m with regs := m.regs.set a (m.nums.getLastD 0), nums := m.nums.dropLast } ∧ Turns (mOwn g (.slice A (n + 1) cap) pv) w ((w.setCell ⟨g, 4 + a, none⟩ (.int .u64 (m.nums.getLastD 0 : Nat))).setCell ⟨g, 12, none⟩ (.slice A n cap)) := by
  obtain ⟨h1, t1⟩ := reg_stored (v := m.nums.getLastD 0) h ha hr
  have hts : Turns [g] (w.setCell ⟨g, 4 + a, none⟩ (.int .u64 (m.nums.getLastD 0 : Nat))) ((w.setCell ⟨g, 4 + a, none⟩ (.int .u64 (m.nums.getLastD 0 : Nat))).setCell ⟨g, 12, none⟩ (.slice A n cap)) := (Turns.refl _ _).set (.inl (by simp)) _
  have x1 := own_ne_block h1.code h1.cells (by decide)
  have x2 := own_ne_block h1.nums h1.cells (by decide)
  have x3 := own_ne_block h1.places h1.cells (by decide)
  refine ⟨⟨h1.cells.set 12 _, row_turns h1.code hts fun k hk => by simpa using x1 k hk, ?_, row_turns h1.places hts fun k hk => by simpa using x3 k hk⟩, (t1.trans hts).mono fun x hx => .inl (mOwn_only _ _ _ hx)⟩
  have hrow := h1.nums
  simp only [hn] at hrow
  obtain ⟨b, rfl, _, _, hp⟩ := own_pop hrow
  have hd : (m.nums.map U).take n = m.nums.dropLast.map U := by
    rw [List.dropLast_eq_take, hn, ← List.map_take]
    simp
  rw [hd] at hp
  have hl : m.nums.dropLast.length = n := by simp [hn]
  have := row_turns hp hts fun k hk => by simpa using x2 k hk
  simpa only [hl] using this

theorem pop_ints {n0 cap : Nat} (h : n0 + 1 ≤ 8) (hc : n0 + 1 ≤ cap) : (0 : Int) < ((n0 + 1 : Nat) : Int) ∧ wrap64 (n0 : Int) = (n0 : Int) ∧ (n0 : Int) < (n0 : Int) + 1 ∧ (0 : Int) ≤ (n0 : Int) ∧ (n0 : Int) < ((n0 + 1 : Nat) : Int) ∧ (n0 : Int) ≤ (cap : Int) ∧ n0 ≤ cap := by
  unfold wrap64
  omega

theorem info_u64 : ∃ i, Tryz.prog.info? 25 = some i ∧ i.zero = some (.int .u64 0) ∧ i.size = 1 ∧ i.bytes = 8 := info_split (by kernel_rfl)

set_option maxRecDepth 100000 in
set_option maxHeartbeats 4000000 in
theorem do_push {w : World} {g : Nat} {cs nv pv : Value} {m : Mach} (hM : Mw w g cs nv pv m) (hF : m.Fit) (a b c : Nat) (ha : a < 8) (hb : b < 8) (hc : c < 8) (n : Int) (k : Nat) (hfull : m.nums.length < 8) : Calls Tryz.prog 36 #[.pointer (some ⟨g, 0, none⟩), .agg #[.int .i64 19, .int .i64 (a : Nat), .int .i64 (b : Nat), .int .i64 (c : Nat), .int .i64 n, .int .u64 (k : Nat)]] w fun e w' => e = .returned (.agg #[.int .i64 0, .string ⟨#[]⟩]) ∧ ∃ nv', Anew w nv nv' ∧ Mw w' g cs nv' pv { m with nums := m.nums ++ [m.regs.getD a 0] } ∧ Turns (mOwn g nv pv) w w' := by
  have HM0 := Lib.hid hM
  have hlt := hM.lt
  have HR := Lib.hid hF.rlen
  obtain ⟨An, cap, rfl⟩ := own_slice hM.nums
  have c12 : w.cell? ⟨g, 12, none⟩ = some (.slice An m.nums.length cap) := hM.cells.cell (j := 12) rfl
  have t1 : (m.nums.length : Int) < 8 := by omega
  clear hM hF
  obtain ⟨i1, hq1, hz1, hsz1, hby1⟩ := info_u64
  go_enter Tryz.func36, Tryz.ntmps36
  go_upto_region 7 with (go_at_call 58; with_reducible (refine (must_yes _ _).mono ?_); rintro _ _ ⟨rfl, rfl⟩)
  have HX := Lib.hid ((Cells.new w 77 #[.int .i64 19, .int .i64 (a : Nat), .int .i64 (b : Nat), .int .i64 (c : Nat), .int .i64 n, .int .u64 (k : Nat)]).alloc (.cells #[.int .i64 0, .string ⟨#[]⟩] 56))
  have HA := Lib.hid (Cells.newAt (w.alloc (.cells #[.int .i64 19, .int .i64 (a : Nat), .int .i64 (b : Nat), .int .i64 (c : Nat), .int .i64 n, .int .u64 (k : Nat)] 77)) 56 #[.int .i64 0, .string ⟨#[]⟩] (w.heap.size + 1) (by simp))
  have HM := Lib.hid ((HM0.out.alloc (.cells #[.int .i64 19, .int .i64 (a : Nat), .int .i64 (b : Nat), .int .i64 (c : Nat), .int .i64 n, .int .u64 (k : Nat)] 77)).alloc (.cells #[.int .i64 0, .string ⟨#[]⟩] 56))
  have HB := Lib.hid (((Below.refl w.heap.size w).alloc (Nat.le_refl _) (.cells #[.int .i64 19, .int .i64 (a : Nat), .int .i64 (b : Nat), .int .i64 (c : Nat), .int .i64 n, .int .u64 (k : Nat)] 77)).alloc (by simp) (.cells #[.int .i64 0, .string ⟨#[]⟩] 56))
  generalize (w.alloc (.cells #[.int .i64 19, .int .i64 (a : Nat), .int .i64 (b : Nat), .int .i64 (c : Nat), .int .i64 n, .int .u64 (k : Nat)] 77)).alloc (.cells #[.int .i64 0, .string ⟨#[]⟩] 56) = w2 at *
  have hg1 : g ≠ w.heap.size := by omega
  have hg2 : g ≠ w.heap.size + 1 := by omega
  have d12 : w2.cell? ⟨g, 12, none⟩ = some (.slice An m.nums.length cap) := HM.out.cells.cell (j := 12) rfl
  have y1 : w2.cell? ⟨w.heap.size, 1, none⟩ = some (.int .i64 (a : Nat)) := HX.out.cell (j := 1) rfl
  have r0 := HM.out.cells.cell (cells_reg m cs _ pv a ha)
  have f0 := HM.out.cells.fz (4 + a)
  have i0 : (0 : Int) ≤ a := by omega
  have ii1 : (a : Int) < 8 := by omega
  obtain ⟨v, hv⟩ : ∃ v, m.regs.getD a 0 = v := ⟨_, rfl⟩
  rw [hv] at r0
  have HV := Lib.hid hv
  clear hv
  have HMa := Lib.hid (show Mw (w2.alloc (.cells #[.int .u64 (v : Nat)] 25)).drew g cs (.slice An m.nums.length cap) pv m from (HM.out.alloc _).drew)
  have HXa := Lib.hid (show Cells (w2.alloc (.cells #[.int .u64 (v : Nat)] 25)).drew w.heap.size 77 #[.int .i64 19, .int .i64 (a : Nat), .int .i64 (b : Nat), .int .i64 (c : Nat), .int .i64 n, .int .u64 (k : Nat)] from (HX.out.alloc _).drew)
  have HAa := Lib.hid (show Cells (w2.alloc (.cells #[.int .u64 (v : Nat)] 25)).drew (w.heap.size + 1) 56 #[.int .i64 0, .string ⟨#[]⟩] from (HA.out.alloc _).drew)
  have HROW := Lib.hid HMa.out.nums
  have hnews : ∀ (j : Nat) (u : Value), [Value.int .u64 (v : Nat)][j]? = some u → (w2.alloc (.cells #[.int .u64 (v : Nat)] 25)).drew.cell? ((⟨w2.heap.size, 0, none⟩ : Addr).add j) = some u := World.news_of_block (heap_alloc_new w2 (.cells #[.int .u64 (v : Nat)] 25))
  have HNEWS := Lib.hid hnews
  have y1a : (w2.alloc (.cells #[.int .u64 (v : Nat)] 25)).cell? ⟨w.heap.size, 1, none⟩ = some (.int .i64 (a : Nat)) := HXa.out.cell (j := 1) rfl
  have r0a : (w2.alloc (.cells #[.int .u64 (v : Nat)] 25)).cell? ⟨g, 4 + a, none⟩ = some (.int .u64 (v : Nat)) := HV.out ▸ HMa.out.cells.cell (cells_reg m cs _ pv a ha)
  have d12a : (w2.alloc (.cells #[.int .u64 (v : Nat)] 25)).cell? ⟨g, 12, none⟩ = some (.slice An m.nums.length cap) := HMa.out.cells.cell (j := 12) rfl
  clear hnews
  refine wp_region_held_drew (S := fun w' => w'.cell? ⟨w.heap.size, 1, none⟩ = some (.int .i64 (a : Nat)) ∧ w'.cell? ⟨g, 4 + a, none⟩ = some (.int .u64 (v : Nat))) (by kernel_rfl) ⟨y1, r0⟩ (fun hS => ?_)
  refine wpAnyH_take (i := 0) (v := ?_) rfl (by kernel_rfl) (by kernel_rfl) (by kernel_rfl) (fun _ _ _ h => h) (Or.inl ⟨by rfl, ?_⟩) hS ?_
  rotate_left
  · (intro wx hSx; (try dsimp only at hSx); go_simp; (try with_reducible rfl))
  simp only [List.getElem_toArray, List.getElem_cons_zero, Act.put, List.setIfInBounds_toArray, List.set_cons_zero, List.set_cons_succ]
  refine wpAnyH_take (i := 1) (v := ?_) rfl (by kernel_rfl) (by kernel_rfl) (by kernel_rfl) (fun _ _ _ h => h) (Or.inl ⟨by rfl, ?_⟩) hS ?_
  rotate_left
  · (intro wx hSx; (try dsimp only at hSx); go_simp; (try with_reducible rfl))
  simp only [List.getElem_toArray, List.getElem_cons_succ, List.getElem_cons_zero, Act.put, List.setIfInBounds_toArray, List.set_cons_zero, List.set_cons_succ]
  refine wpAnyH_take (i := 2) (v := ?_) rfl (by kernel_rfl) (by kernel_rfl) (by kernel_rfl) (fun _ _ _ h => h) (Or.inl ⟨by rfl, ?_⟩) hS ?_
  rotate_left
  · (intro wx hSx; (try dsimp only at hSx); go_simp; (try with_reducible rfl))
  simp only [List.getElem_toArray, List.getElem_cons_succ, List.getElem_cons_zero, Act.put, List.setIfInBounds_toArray, List.set_cons_zero, List.set_cons_succ]
  refine wpAnyH_take (i := 3) (v := ?_) rfl (by kernel_rfl) (by kernel_rfl) (by kernel_rfl) (fun _ _ _ h => h) (Or.inl ⟨by rfl, ?_⟩) hS ?_
  rotate_left
  · (intro wx hSx; (try dsimp only at hSx); go_simp; (try with_reducible rfl))
  simp only [List.getElem_toArray, List.getElem_cons_succ, List.getElem_cons_zero, Act.put, List.setIfInBounds_toArray, List.set_cons_zero, List.set_cons_succ]
  refine wpAnyH_take (i := 5) (v := ?_) rfl (by kernel_rfl) (by kernel_rfl) (by kernel_rfl) (fun _ _ _ h => h) (Or.inl ⟨by rfl, ?_⟩) hS ?_
  rotate_left
  · (intro wx hSx; (try dsimp only at hSx); go_simp; (try with_reducible rfl))
  simp only [List.getElem_toArray, List.getElem_cons_succ, List.getElem_cons_zero, Act.put, List.setIfInBounds_toArray, List.set_cons_zero, List.set_cons_succ]
  refine wpAnyH_take (i := 6) (v := ?_) rfl (by kernel_rfl) (by kernel_rfl) (by kernel_rfl) (fun _ _ _ h => h) (Or.inl ⟨by rfl, ?_⟩) hS ?_
  rotate_left
  · (intro wx hSx; (try dsimp only at hSx); go_simp; (try with_reducible rfl))
  simp only [List.getElem_toArray, List.getElem_cons_succ, List.getElem_cons_zero, Act.put, List.setIfInBounds_toArray, List.set_cons_zero, List.set_cons_succ]
  refine wpAnyH_take (i := 7) (v := ?_) rfl (by kernel_rfl) (by kernel_rfl) (by kernel_rfl) (fun _ _ _ h => h) (Or.inl ⟨by rfl, ?_⟩) hS ?_
  rotate_left
  · (intro wx hSx; (try dsimp only at hSx); go_simp; (try with_reducible rfl))
  simp only [List.getElem_toArray, List.getElem_cons_succ, List.getElem_cons_zero, Act.put, List.setIfInBounds_toArray, List.set_cons_zero, List.set_cons_succ]
  refine wpAnyH_take (i := 8) (v := ?_) rfl (by kernel_rfl) (by kernel_rfl) (by kernel_rfl) (fun _ _ _ h => h) (Or.inl ⟨by rfl, ?_⟩) hS ?_
  rotate_left
  · (intro wx hSx; (try dsimp only at hSx); go_simp; (try with_reducible rfl))
  simp only [List.getElem_toArray, List.getElem_cons_succ, List.getElem_cons_zero, Act.put, List.setIfInBounds_toArray, List.set_cons_zero, List.set_cons_succ]
  refine wpAnyH_take (i := 9) (v := ?_) rfl (by kernel_rfl) (by kernel_rfl) (by kernel_rfl) (fun _ _ _ h => h) (Or.inl ⟨by rfl, ?_⟩) hS ?_
  rotate_left
  · (intro wx hSx; (try dsimp only at hSx); go_simp; (try with_reducible rfl))
  simp only [List.getElem_toArray, List.getElem_cons_succ, List.getElem_cons_zero, Act.put, List.setIfInBounds_toArray, List.set_cons_zero, List.set_cons_succ]
  refine wpAnyH_take (i := 10) (v := ?_) rfl (by kernel_rfl) (by kernel_rfl) (by kernel_rfl) (fun _ _ _ h => h) (Or.inl ⟨by rfl, ?_⟩) hS ?_
  rotate_left
  · (intro wx hSx; (try dsimp only at hSx); go_simp; (try with_reducible rfl))
  simp only [List.getElem_toArray, List.getElem_cons_succ, List.getElem_cons_zero, Act.put, List.setIfInBounds_toArray, List.set_cons_zero, List.set_cons_succ]
  refine wpAnyH_take (i := 11) (v := ?_) rfl (by kernel_rfl) (by kernel_rfl) (by kernel_rfl) (fun _ _ _ h => h) (Or.inl ⟨by rfl, ?_⟩) hS ?_
  rotate_left
  · (intro wx hSx; (try dsimp only at hSx); go_simp; (try with_reducible rfl))
  simp only [List.getElem_toArray, List.getElem_cons_succ, List.getElem_cons_zero, Act.put, List.setIfInBounds_toArray, List.set_cons_zero, List.set_cons_succ]
  refine wpAnyH_ready (rs := [4, 12]) (by kernel_rfl) (by simp) ?_
  refine AllReadyH.cons rfl (fun K hK => ?_) (AllReadyH.cons rfl (fun K hK => ?_) AllReadyH.nil)
  · go_simp
    refine hK.out _ _ (by first | with_reducible exact hS | with_reducible exact ⟨y1, r0⟩ | with_reducible exact ⟨y1a, r0a⟩ | with_reducible exact q4 | with_reducible exact q5 _ | exact hS | exact ⟨y1a, r0a⟩) (fun hS => ?_)
    clear hK K
    try simp only [Act.put, List.setIfInBounds_toArray, List.set_cons_zero, List.set_cons_succ]
    refine wpAnyH_ready (rs := [12]) (by kernel_rfl) (by simp) ?_
    refine AllReadyH.cons rfl (fun K hK => ?_) AllReadyH.nil
    go_simp
    refine hK.out _ _ (by first | with_reducible exact hS | with_reducible exact ⟨y1, r0⟩ | with_reducible exact ⟨y1a, r0a⟩ | with_reducible exact q4 | with_reducible exact q5 _ | exact hS | exact ⟨y1a, r0a⟩) (fun hS => ?_)
    clear hK K
    try simp only [Act.put, List.setIfInBounds_toArray, List.set_cons_zero, List.set_cons_succ]
    refine wpAnyH_ready (rs := [13]) (by kernel_rfl) (by simp) ?_
    refine AllReadyH.cons rfl (fun K hK => ?_) AllReadyH.nil
    refine step_append_lies _ rfl (.tmp 60) (.tmp 68) 58 rfl 0 25 i1 _ 1 8 Tryz.underlying58 hq1 hz1 hsz1 hby1 rfl (by decide) (.slice An m.nums.length cap) m.nums.length _ rfl HROW.out (ad := ⟨w2.heap.size, 0, none⟩) (m := 1) (c := 1) (news := [.int .u64 (v : Nat)]) (hx := rfl) (hl := rfl) (hnews := HNEWS.out) (h1 := by simp [Value.oneCell']) (hm := by decide) (h63 := by unfold maxLen; omega) (hbytes := by omega) (hbase := Nat.zero_le _) (H := _) (hH := rfl) (h := ?_)
    intro g' cap' W4 ho hgr hat hlt4
    have HO := Lib.hid ho
    have HGR := Lib.hid hgr
    have HAT := Lib.hid hat
    have HC4 := Lib.hid (cells_grown hgr HMa.out.nums HMa.out.cells (by decide))
    have HX4 := Lib.hid (cells_grown hgr HMa.out.nums HXa.out (by decide))
    have HA4 := Lib.hid (cells_grown hgr HMa.out.nums HAa.out (by decide))
    have e12 := HC4.out.cell (j := 12) rfl
    have ef := HC4.out.fz 12
    have q4 : W4.cell? ⟨w.heap.size, 1, none⟩ = some (.int .i64 (a : Nat)) ∧ W4.cell? ⟨g, 4 + a, none⟩ = some (.int .u64 (v : Nat)) := ⟨HX4.out.cell (j := 1) rfl, HV.out ▸ HC4.out.cell (cells_reg m cs _ pv a ha)⟩
    have q5 : ∀ u, (W4.setCell ⟨g, 12, none⟩ u).cell? ⟨w.heap.size, 1, none⟩ = some (.int .i64 (a : Nat)) ∧ (W4.setCell ⟨g, 12, none⟩ u).cell? ⟨g, 4 + a, none⟩ = some (.int .u64 (v : Nat)) := fun u => ⟨(HX4.out.far (a := ⟨g, 12, none⟩) (Ne.symm hg1) u).cell (j := 1) rfl, by rw [World.cell?_setCell_other _ _ _ _ (by first | (simp; done) | (simp; omega))]; exact q4.2⟩
    clear ho hgr hat hlt4
    refine hK.out _ _ (by first | with_reducible exact hS | with_reducible exact ⟨y1, r0⟩ | with_reducible exact ⟨y1a, r0a⟩ | with_reducible exact q4 | with_reducible exact q5 _ | exact hS | exact ⟨y1a, r0a⟩) (fun hS => ?_)
    clear hK K
    try simp only [Act.put, List.setIfInBounds_toArray, List.set_cons_zero, List.set_cons_succ]
    refine wpAnyH_take (i := 14) (v := ?_) rfl (by kernel_rfl) (by kernel_rfl) (by kernel_rfl) (fun _ _ _ h => h) (Or.inl ⟨by rfl, ?_⟩) hS ?_
    rotate_left
    · (intro wx hSx; (try dsimp only at hSx); go_simp; (try with_reducible rfl))
    simp only [List.getElem_toArray, List.getElem_cons_succ, List.getElem_cons_zero, Act.put, List.setIfInBounds_toArray, List.set_cons_zero, List.set_cons_succ]
    refine wpAnyH_take (i := 15) (v := ?_) rfl (by kernel_rfl) (by kernel_rfl) (by kernel_rfl) (fun _ _ _ h => h) (Or.inl ⟨by rfl, ?_⟩) hS ?_
    rotate_left
    · (intro wx hSx; (try dsimp only at hSx); go_simp; (try with_reducible rfl))
    simp only [List.getElem_toArray, List.getElem_cons_succ, List.getElem_cons_zero, Act.put, List.setIfInBounds_toArray, List.set_cons_zero, List.set_cons_succ]
    refine wpAnyH_ready (rs := [16]) (by kernel_rfl) (by simp) ?_
    refine AllReadyH.cons rfl (fun K hK => ?_) AllReadyH.nil
    go_simp
    refine hK.out _ _ (by first | with_reducible exact hS | with_reducible exact ⟨y1, r0⟩ | with_reducible exact ⟨y1a, r0a⟩ | with_reducible exact q4 | with_reducible exact q5 _ | exact hS | exact ⟨y1a, r0a⟩) (fun hS => ?_)
    clear hK K
    try simp only [Act.put, List.setIfInBounds_toArray, List.set_cons_zero, List.set_cons_succ]
    refine wpAnyH_done (by kernel_rfl) ?_ _
    have HS := Lib.hid (pushed HMa.out HO.out HGR.out).1
    rw [← HV.out] at HS
    have HAN := Lib.hid (show Anew w _ (.slice (some ⟨g', 0, none⟩) (m.nums.length + 1) cap') from grown_anew HAT.out (by have := HB.out.size; simp; omega))
    have HA3 := Lib.hid (HA4.out.far (a := ⟨g, 12, none⟩) (Ne.symm hg2) (.slice (some ⟨g', 0, none⟩) (m.nums.length + 1) cap'))
    have HT2 := Lib.hid (show Turns (mOwn g (.slice An m.nums.length cap) pv) w _ from turns_keep HB.out ((Turns.of_below (S := mOwn g (.slice An m.nums.length cap) pv) (show Below w2.heap.size w2 (w2.alloc (.cells #[.int .u64 (v : Nat)] 25)).drew from ((Below.refl _ _).alloc (Nat.le_refl _) _).drew)).trans (pushed HMa.out HO.out HGR.out).2))
    clear q4 q5 y1 y1a r0 r0a d12 d12a e12 ef hS
    try change Exit.then _ _ Exit.normal _ (W4.setCell ⟨g, 12, none⟩ (.slice (some ⟨g', 0, none⟩) (m.nums.length + 1) cap'))
    generalize W4.setCell ⟨g, 12, none⟩ (.slice (some ⟨g', 0, none⟩) (m.nums.length + 1) cap') = w3 at *
    have a0 : w3.cell? ⟨w.heap.size + 1, 0, none⟩ = some (.int .i64 0) := HA3.out.cell (j := 0) rfl
    have a1 : w3.cell? ⟨w.heap.size + 1, 1, none⟩ = some (.string ⟨#[]⟩) := HA3.out.cell (j := 1) rfl
    have b0 := HA3.out.fz 0
    have b1 := HA3.out.fz 1
    go_wp2_with fail
    refine bodyPost_ret (v := .agg #[.int .i64 0, .string ⟨#[]⟩]) (by simp [results, Tryz.results36, go_sem, *]) rfl ?_
    first
      | exact ⟨rfl, _, HAN.out, act_end' HS.out HA3.out HT2.out (by omega) _ _⟩
      | exact ⟨rfl, _, HAN.out, act_end HS.out HA3.out HT2.out (by omega) _ _⟩
  · go_simp
    refine hK.out _ _ (by first | with_reducible exact hS | with_reducible exact ⟨y1, r0⟩ | with_reducible exact ⟨y1a, r0a⟩ | with_reducible exact q4 | with_reducible exact q5 _ | exact hS | exact ⟨y1a, r0a⟩) (fun hS => ?_)
    clear hK K
    try simp only [Act.put, List.setIfInBounds_toArray, List.set_cons_zero, List.set_cons_succ]
    refine wpAnyH_ready (rs := [4]) (by kernel_rfl) (by simp) ?_
    refine AllReadyH.cons rfl (fun K hK => ?_) AllReadyH.nil
    go_simp
    refine hK.out _ _ (by first | with_reducible exact hS | with_reducible exact ⟨y1, r0⟩ | with_reducible exact ⟨y1a, r0a⟩ | with_reducible exact q4 | with_reducible exact q5 _ | exact hS | exact ⟨y1a, r0a⟩) (fun hS => ?_)
    clear hK K
    try simp only [Act.put, List.setIfInBounds_toArray, List.set_cons_zero, List.set_cons_succ]
    refine wpAnyH_ready (rs := [13]) (by kernel_rfl) (by simp) ?_
    refine AllReadyH.cons rfl (fun K hK => ?_) AllReadyH.nil
    refine step_append_lies _ rfl (.tmp 60) (.tmp 68) 58 rfl 0 25 i1 _ 1 8 Tryz.underlying58 hq1 hz1 hsz1 hby1 rfl (by decide) (.slice An m.nums.length cap) m.nums.length _ rfl HROW.out (ad := ⟨w2.heap.size, 0, none⟩) (m := 1) (c := 1) (news := [.int .u64 (v : Nat)]) (hx := rfl) (hl := rfl) (hnews := HNEWS.out) (h1 := by simp [Value.oneCell']) (hm := by decide) (h63 := by unfold maxLen; omega) (hbytes := by omega) (hbase := Nat.zero_le _) (H := _) (hH := rfl) (h := ?_)
    intro g' cap' W4 ho hgr hat hlt4
    have HO := Lib.hid ho
    have HGR := Lib.hid hgr
    have HAT := Lib.hid hat
    have HC4 := Lib.hid (cells_grown hgr HMa.out.nums HMa.out.cells (by decide))
    have HX4 := Lib.hid (cells_grown hgr HMa.out.nums HXa.out (by decide))
    have HA4 := Lib.hid (cells_grown hgr HMa.out.nums HAa.out (by decide))
    have e12 := HC4.out.cell (j := 12) rfl
    have ef := HC4.out.fz 12
    have q4 : W4.cell? ⟨w.heap.size, 1, none⟩ = some (.int .i64 (a : Nat)) ∧ W4.cell? ⟨g, 4 + a, none⟩ = some (.int .u64 (v : Nat)) := ⟨HX4.out.cell (j := 1) rfl, HV.out ▸ HC4.out.cell (cells_reg m cs _ pv a ha)⟩
    have q5 : ∀ u, (W4.setCell ⟨g, 12, none⟩ u).cell? ⟨w.heap.size, 1, none⟩ = some (.int .i64 (a : Nat)) ∧ (W4.setCell ⟨g, 12, none⟩ u).cell? ⟨g, 4 + a, none⟩ = some (.int .u64 (v : Nat)) := fun u => ⟨(HX4.out.far (a := ⟨g, 12, none⟩) (Ne.symm hg1) u).cell (j := 1) rfl, by rw [World.cell?_setCell_other _ _ _ _ (by first | (simp; done) | (simp; omega))]; exact q4.2⟩
    clear ho hgr hat hlt4
    refine hK.out _ _ (by first | with_reducible exact hS | with_reducible exact ⟨y1, r0⟩ | with_reducible exact ⟨y1a, r0a⟩ | with_reducible exact q4 | with_reducible exact q5 _ | exact hS | exact ⟨y1a, r0a⟩) (fun hS => ?_)
    clear hK K
    try simp only [Act.put, List.setIfInBounds_toArray, List.set_cons_zero, List.set_cons_succ]
    refine wpAnyH_take (i := 14) (v := ?_) rfl (by kernel_rfl) (by kernel_rfl) (by kernel_rfl) (fun _ _ _ h => h) (Or.inl ⟨by rfl, ?_⟩) hS ?_
    rotate_left
    · (intro wx hSx; (try dsimp only at hSx); go_simp; (try with_reducible rfl))
    simp only [List.getElem_toArray, List.getElem_cons_succ, List.getElem_cons_zero, Act.put, List.setIfInBounds_toArray, List.set_cons_zero, List.set_cons_succ]
    refine wpAnyH_take (i := 15) (v := ?_) rfl (by kernel_rfl) (by kernel_rfl) (by kernel_rfl) (fun _ _ _ h => h) (Or.inl ⟨by rfl, ?_⟩) hS ?_
    rotate_left
    · (intro wx hSx; (try dsimp only at hSx); go_simp; (try with_reducible rfl))
    simp only [List.getElem_toArray, List.getElem_cons_succ, List.getElem_cons_zero, Act.put, List.setIfInBounds_toArray, List.set_cons_zero, List.set_cons_succ]
    refine wpAnyH_ready (rs := [16]) (by kernel_rfl) (by simp) ?_
    refine AllReadyH.cons rfl (fun K hK => ?_) AllReadyH.nil
    go_simp
    refine hK.out _ _ (by first | with_reducible exact hS | with_reducible exact ⟨y1, r0⟩ | with_reducible exact ⟨y1a, r0a⟩ | with_reducible exact q4 | with_reducible exact q5 _ | exact hS | exact ⟨y1a, r0a⟩) (fun hS => ?_)
    clear hK K
    try simp only [Act.put, List.setIfInBounds_toArray, List.set_cons_zero, List.set_cons_succ]
    refine wpAnyH_done (by kernel_rfl) ?_ _
    have HS := Lib.hid (pushed HMa.out HO.out HGR.out).1
    rw [← HV.out] at HS
    have HAN := Lib.hid (show Anew w _ (.slice (some ⟨g', 0, none⟩) (m.nums.length + 1) cap') from grown_anew HAT.out (by have := HB.out.size; simp; omega))
    have HA3 := Lib.hid (HA4.out.far (a := ⟨g, 12, none⟩) (Ne.symm hg2) (.slice (some ⟨g', 0, none⟩) (m.nums.length + 1) cap'))
    have HT2 := Lib.hid (show Turns (mOwn g (.slice An m.nums.length cap) pv) w _ from turns_keep HB.out ((Turns.of_below (S := mOwn g (.slice An m.nums.length cap) pv) (show Below w2.heap.size w2 (w2.alloc (.cells #[.int .u64 (v : Nat)] 25)).drew from ((Below.refl _ _).alloc (Nat.le_refl _) _).drew)).trans (pushed HMa.out HO.out HGR.out).2))
    clear q4 q5 y1 y1a r0 r0a d12 d12a e12 ef hS
    try change Exit.then _ _ Exit.normal _ (W4.setCell ⟨g, 12, none⟩ (.slice (some ⟨g', 0, none⟩) (m.nums.length + 1) cap'))
    generalize W4.setCell ⟨g, 12, none⟩ (.slice (some ⟨g', 0, none⟩) (m.nums.length + 1) cap') = w3 at *
    have a0 : w3.cell? ⟨w.heap.size + 1, 0, none⟩ = some (.int .i64 0) := HA3.out.cell (j := 0) rfl
    have a1 : w3.cell? ⟨w.heap.size + 1, 1, none⟩ = some (.string ⟨#[]⟩) := HA3.out.cell (j := 1) rfl
    have b0 := HA3.out.fz 0
    have b1 := HA3.out.fz 1
    go_wp2_with fail
    refine bodyPost_ret (v := .agg #[.int .i64 0, .string ⟨#[]⟩]) (by simp [results, Tryz.results36, go_sem, *]) rfl ?_
    first
      | exact ⟨rfl, _, HAN.out, act_end' HS.out HA3.out HT2.out (by omega) _ _⟩
      | exact ⟨rfl, _, HAN.out, act_end HS.out HA3.out HT2.out (by omega) _ _⟩
set_option maxRecDepth 100000 in
set_option maxHeartbeats 4000000 in
theorem do_pop {w : World} {g : Nat} {cs nv pv : Value} {m : Mach} (hM : Mw w g cs nv pv m) (hF : m.Fit) (a b c : Nat) (ha : a < 8) (hb : b < 8) (hc : c < 8) (n : Int) (k : Nat) {n0 : Nat} (hn0 : m.nums.length = n0 + 1) : Calls Tryz.prog 36 #[.pointer (some ⟨g, 0, none⟩), .agg #[.int .i64 20, .int .i64 (a : Nat), .int .i64 (b : Nat), .int .i64 (c : Nat), .int .i64 n, .int .u64 (k : Nat)]] w fun e w' => e = .returned (.agg #[.int .i64 0, .string ⟨#[]⟩]) ∧ ∃ nv', Anew w nv nv' ∧ Mw w' g cs nv' pv { m with regs := m.regs.set a (m.nums.getLastD 0), nums := m.nums.dropLast } ∧ Turns (mOwn g nv pv) w w' := by
  have HM0 := Lib.hid hM
  have hlt := hM.lt
  have HR := Lib.hid hF.rlen
  obtain ⟨An, cap, hnv⟩ := own_slice hM.nums
  rw [hn0] at hnv
  subst hnv
  have HN := Lib.hid hn0
  have c12 : w.cell? ⟨g, 12, none⟩ = some (.slice An (n0 + 1) cap) := hM.cells.cell (j := 12) rfl
  have hrow := hM.nums
  rw [hn0] at hrow
  obtain ⟨bq, hA, cb, hcap, _⟩ := own_pop hrow
  subst hA
  have hb0 : bq < w.heap.size := (hrow.lt bq rfl).2
  have hbg : bq ≠ g := own_ne_block hrow hM.cells (by decide) bq rfl
  have hcb : w.cell? ⟨bq, n0, none⟩ = some (.int .u64 (m.nums.getLastD 0 : Nat)) := by
    rw [cb, List.getElem?_map]
    have h : m.nums[n0]? = some (m.nums.getLastD 0) := by
      have hl : n0 < m.nums.length := by omega
      rw [List.getLastD_eq_getLast?, List.getLast?_eq_getElem?, hn0]
      simp [List.getElem?_eq_getElem hl]
    rw [h]
    rfl
  obtain ⟨t1, hw2, i6, i2, i3, i4, i5⟩ := pop_ints (n0 := n0) (cap := cap) (by have h8 := hF.nlen; omega) hcap
  clear hM hF hrow cb hn0
  go_enter Tryz.func36, Tryz.ntmps36
  go_upto_region 11 with (go_at_call 58; with_reducible (refine (must_yes _ _).mono ?_); rintro _ _ ⟨rfl, rfl⟩)
  have HX := Lib.hid ((Cells.new w 77 #[.int .i64 20, .int .i64 (a : Nat), .int .i64 (b : Nat), .int .i64 (c : Nat), .int .i64 n, .int .u64 (k : Nat)]).alloc (.cells #[.int .i64 0, .string ⟨#[]⟩] 56))
  have HA := Lib.hid (Cells.newAt (w.alloc (.cells #[.int .i64 20, .int .i64 (a : Nat), .int .i64 (b : Nat), .int .i64 (c : Nat), .int .i64 n, .int .u64 (k : Nat)] 77)) 56 #[.int .i64 0, .string ⟨#[]⟩] (w.heap.size + 1) (by simp))
  have HM := Lib.hid ((HM0.out.alloc (.cells #[.int .i64 20, .int .i64 (a : Nat), .int .i64 (b : Nat), .int .i64 (c : Nat), .int .i64 n, .int .u64 (k : Nat)] 77)).alloc (.cells #[.int .i64 0, .string ⟨#[]⟩] 56))
  have HB := Lib.hid (((Below.refl w.heap.size w).alloc (Nat.le_refl _) (.cells #[.int .i64 20, .int .i64 (a : Nat), .int .i64 (b : Nat), .int .i64 (c : Nat), .int .i64 n, .int .u64 (k : Nat)] 77)).alloc (by simp) (.cells #[.int .i64 0, .string ⟨#[]⟩] 56))
  generalize (w.alloc (.cells #[.int .i64 20, .int .i64 (a : Nat), .int .i64 (b : Nat), .int .i64 (c : Nat), .int .i64 n, .int .u64 (k : Nat)] 77)).alloc (.cells #[.int .i64 0, .string ⟨#[]⟩] 56) = w2 at *
  have hg1 : g ≠ w.heap.size := by omega
  have hg2 : g ≠ w.heap.size + 1 := by omega
  have d12 : w2.cell? ⟨g, 12, none⟩ = some (.slice (some ⟨bq, 0, none⟩) (n0 + 1) cap) := HM.out.cells.cell (j := 12) rfl
  have db : w2.cell? ⟨bq, n0, none⟩ = some (.int .u64 (m.nums.getLastD 0 : Nat)) := (HB.out.cell (p := ⟨bq, n0, none⟩) hb0).trans hcb
  have y1 : w2.cell? ⟨w.heap.size, 1, none⟩ = some (.int .i64 (a : Nat)) := HX.out.cell (j := 1) rfl
  have f0 := HM.out.cells.fz (4 + a)
  have r0 := HM.out.cells.cell (cells_reg m cs _ pv a ha)
  have f12 := HM.out.cells.fz 12
  have i0 : (0 : Int) ≤ a := by omega
  have i1 : (a : Int) < 8 := by omega
  obtain ⟨v, hv⟩ : ∃ v, m.nums.getLastD 0 = v := ⟨_, rfl⟩
  rw [hv] at db
  have HV := Lib.hid hv
  clear hv hcb c12
  have xs : ∀ u, (w2.setCell ⟨g, 4 + a, none⟩ u).cell? ⟨w.heap.size, 1, none⟩ = some (.int .i64 (a : Nat)) ∧ (w2.setCell ⟨g, 4 + a, none⟩ u).cell? ⟨g, 12, none⟩ = some (.slice (some ⟨bq, 0, none⟩) (n0 + 1) cap) ∧ (w2.setCell ⟨g, 4 + a, none⟩ u).cell? ⟨bq, n0, none⟩ = some (.int .u64 (v : Nat)) := fun u =>
    ⟨(HX.out.far (a := ⟨g, 4 + a, none⟩) (Ne.symm hg1) u).cell (j := 1) rfl, (World.cell?_setCell_other _ _ _ _ (by first | (simp; done) | (simp; omega))).trans d12, (World.cell?_setCell_other _ _ _ _ (by first | (simp; done) | (simp; omega))).trans db⟩
  refine wp_region_held_drew (S := fun w' => w'.cell? ⟨w.heap.size, 1, none⟩ = some (.int .i64 (a : Nat)) ∧ w'.cell? ⟨g, 12, none⟩ = some (.slice (some ⟨bq, 0, none⟩) (n0 + 1) cap) ∧ w'.cell? ⟨bq, n0, none⟩ = some (.int .u64 (v : Nat))) (by kernel_rfl) ⟨y1, d12, db⟩ (fun hS => ?_)
  refine wpAnyH_take (i := 0) (v := ?_) rfl (by kernel_rfl) (by kernel_rfl) (by kernel_rfl) (fun _ _ _ h => h) (Or.inl ⟨by rfl, ?_⟩) hS ?_
  rotate_left
  · (intro wx hSx; (try dsimp only at hSx); go_simp; (try with_reducible rfl))
  simp only [List.getElem_toArray, List.getElem_cons_zero, Act.put, List.setIfInBounds_toArray, List.set_cons_zero, List.set_cons_succ]
  refine wpAnyH_take (i := 1) (v := ?_) rfl (by kernel_rfl) (by kernel_rfl) (by kernel_rfl) (fun _ _ _ h => h) (Or.inl ⟨by rfl, ?_⟩) hS ?_
  rotate_left
  · (intro wx hSx; (try dsimp only at hSx); go_simp; (try with_reducible rfl))
  simp only [List.getElem_toArray, List.getElem_cons_succ, List.getElem_cons_zero, Act.put, List.setIfInBounds_toArray, List.set_cons_zero, List.set_cons_succ]
  refine wpAnyH_take (i := 2) (v := ?_) rfl (by kernel_rfl) (by kernel_rfl) (by kernel_rfl) (fun _ _ _ h => h) (Or.inl ⟨by rfl, ?_⟩) hS ?_
  rotate_left
  · (intro wx hSx; (try dsimp only at hSx); go_simp; (try with_reducible rfl))
  simp only [List.getElem_toArray, List.getElem_cons_succ, List.getElem_cons_zero, Act.put, List.setIfInBounds_toArray, List.set_cons_zero, List.set_cons_succ]
  refine wpAnyH_take (i := 3) (v := ?_) rfl (by kernel_rfl) (by kernel_rfl) (by kernel_rfl) (fun _ _ _ h => h) (Or.inl ⟨by rfl, ?_⟩) hS ?_
  rotate_left
  · (intro wx hSx; (try dsimp only at hSx); go_simp; (try with_reducible rfl))
  simp only [List.getElem_toArray, List.getElem_cons_succ, List.getElem_cons_zero, Act.put, List.setIfInBounds_toArray, List.set_cons_zero, List.set_cons_succ]
  refine wpAnyH_take (i := 4) (v := ?_) rfl (by kernel_rfl) (by kernel_rfl) (by kernel_rfl) (fun _ _ _ h => h) (Or.inl ⟨by rfl, ?_⟩) hS ?_
  rotate_left
  · (intro wx hSx; (try dsimp only at hSx); go_simp; (try with_reducible rfl))
  simp only [List.getElem_toArray, List.getElem_cons_succ, List.getElem_cons_zero, Act.put, List.setIfInBounds_toArray, List.set_cons_zero, List.set_cons_succ]
  refine wpAnyH_take (i := 5) (v := ?_) rfl (by kernel_rfl) (by kernel_rfl) (by kernel_rfl) (fun _ _ _ h => h) (Or.inl ⟨by rfl, ?_⟩) hS ?_
  rotate_left
  · (intro wx hSx; (try dsimp only at hSx); go_simp; (try with_reducible rfl))
  simp only [List.getElem_toArray, List.getElem_cons_succ, List.getElem_cons_zero, Act.put, List.setIfInBounds_toArray, List.set_cons_zero, List.set_cons_succ]
  refine wpAnyH_take (i := 6) (v := ?_) rfl (by kernel_rfl) (by kernel_rfl) (by kernel_rfl) (fun _ _ _ h => h) (Or.inl ⟨by rfl, ?_⟩) hS ?_
  rotate_left
  · (intro wx hSx; (try dsimp only at hSx); go_simp; (try with_reducible rfl))
  simp only [List.getElem_toArray, List.getElem_cons_succ, List.getElem_cons_zero, Act.put, List.setIfInBounds_toArray, List.set_cons_zero, List.set_cons_succ]
  refine wpAnyH_take (i := 7) (v := ?_) rfl (by kernel_rfl) (by kernel_rfl) (by kernel_rfl) (fun _ _ _ h => h) (Or.inl ⟨by rfl, ?_⟩) hS ?_
  rotate_left
  · (intro wx hSx; (try dsimp only at hSx); go_simp; (try with_reducible rfl))
  simp only [List.getElem_toArray, List.getElem_cons_succ, List.getElem_cons_zero, Act.put, List.setIfInBounds_toArray, List.set_cons_zero, List.set_cons_succ]
  refine wpAnyH_take (i := 8) (v := ?_) rfl (by kernel_rfl) (by kernel_rfl) (by kernel_rfl) (fun _ _ _ h => h) (Or.inl ⟨by rfl, ?_⟩) hS ?_
  rotate_left
  · (intro wx hSx; (try dsimp only at hSx); go_simp; (try with_reducible rfl))
  simp only [List.getElem_toArray, List.getElem_cons_succ, List.getElem_cons_zero, Act.put, List.setIfInBounds_toArray, List.set_cons_zero, List.set_cons_succ]
  refine wpAnyH_take (i := 9) (v := ?_) rfl (by kernel_rfl) (by kernel_rfl) (by kernel_rfl) (fun _ _ _ h => h) (Or.inl ⟨by rfl, ?_⟩) hS ?_
  rotate_left
  · (intro wx hSx; (try dsimp only at hSx); go_simp; (try with_reducible rfl))
  simp only [List.getElem_toArray, List.getElem_cons_succ, List.getElem_cons_zero, Act.put, List.setIfInBounds_toArray, List.set_cons_zero, List.set_cons_succ]
  refine wpAnyH_take (i := 10) (v := ?_) rfl (by kernel_rfl) (by kernel_rfl) (by kernel_rfl) (fun _ _ _ h => h) (Or.inl ⟨by rfl, ?_⟩) hS ?_
  rotate_left
  · (intro wx hSx; (try dsimp only at hSx); go_simp; (try with_reducible rfl))
  simp only [List.getElem_toArray, List.getElem_cons_succ, List.getElem_cons_zero, Act.put, List.setIfInBounds_toArray, List.set_cons_zero, List.set_cons_succ]
  refine wpAnyH_take (i := 11) (v := ?_) rfl (by kernel_rfl) (by kernel_rfl) (by kernel_rfl) (fun _ _ _ h => h) (Or.inl ⟨by rfl, ?_⟩) hS ?_
  rotate_left
  · (intro wx hSx; (try dsimp only at hSx); go_simp; (try with_reducible rfl))
  simp only [List.getElem_toArray, List.getElem_cons_succ, List.getElem_cons_zero, Act.put, List.setIfInBounds_toArray, List.set_cons_zero, List.set_cons_succ]
  refine wpAnyH_take (i := 12) (v := ?_) rfl (by kernel_rfl) (by kernel_rfl) (by kernel_rfl) (fun _ _ _ h => h) (Or.inl ⟨by rfl, ?_⟩) hS ?_
  rotate_left
  · (intro wx hSx; (try dsimp only at hSx); go_simp; (try with_reducible rfl))
  simp only [List.getElem_toArray, List.getElem_cons_succ, List.getElem_cons_zero, Act.put, List.setIfInBounds_toArray, List.set_cons_zero, List.set_cons_succ]
  refine wpAnyH_ready (rs := [13]) (by kernel_rfl) (by simp) ?_
  refine AllReadyH.cons rfl (fun K hK => ?_) AllReadyH.nil
  go_simp
  refine hK.out _ _ (by first | with_reducible exact xs _ | exact xs _) (fun hS => ?_)
  clear hK K
  try simp only [Act.put, List.setIfInBounds_toArray, List.set_cons_zero, List.set_cons_succ]
  refine wpAnyH_done (by kernel_rfl) ?_ _
  have e12 := (xs (.int .u64 (v : Nat))).2.1
  have ef : (w2.setCell ⟨g, 4 + a, none⟩ (.int .u64 (v : Nat))).frozen? ⟨g, 12, none⟩ = false := (HM.out.cells.set (4 + a) (.int .u64 (v : Nat))).fz 12
  have HP := Lib.hid (popped (a := a) HM.out HN.out ha HR.out)
  rw [HV.out] at HP
  have HA3 := Lib.hid ((HA.out.far (a := ⟨g, 4 + a, none⟩) (Ne.symm hg2) (.int .u64 (v : Nat))).far (a := ⟨g, 12, none⟩) (Ne.symm hg2) (.slice (some ⟨bq, 0, none⟩) n0 cap))
  clear xs y1 r0 f0 d12 db f12 hS
  try change Exit.then _ _ Exit.normal _ (w2.setCell ⟨g, 4 + a, none⟩ (.int .u64 (v : Nat)))
  go_upto_region 23 with (fail)
  have HS := Lib.hid HP.out.1
  have HT2 := Lib.hid (turns_keep HB.out HP.out.2)
  clear HP e12 ef
  generalize ((w2.setCell ⟨g, 4 + a, none⟩ (.int .u64 (v : Nat))).setCell ⟨g, 12, none⟩ (.slice (some ⟨bq, 0, none⟩) n0 cap)) = w3 at *
  rw [← HV.out] at HS
  have a0 : w3.cell? ⟨w.heap.size + 1, 0, none⟩ = some (.int .i64 0) := HA3.out.cell (j := 0) rfl
  have a1 : w3.cell? ⟨w.heap.size + 1, 1, none⟩ = some (.string ⟨#[]⟩) := HA3.out.cell (j := 1) rfl
  have b0 := HA3.out.fz 0
  have b1 := HA3.out.fz 1
  go_wp2_with fail
  refine bodyPost_ret (v := .agg #[.int .i64 0, .string ⟨#[]⟩]) (by simp [results, Tryz.results36, go_sem, *]) rfl ?_
  first
    | exact ⟨rfl, (.slice (some ⟨bq, 0, none⟩) n0 cap), .inl rfl, act_end' HS.out HA3.out HT2.out (by omega) _ _⟩
    | exact ⟨rfl, (.slice (some ⟨bq, 0, none⟩) n0 cap), .inl rfl, act_end HS.out HA3.out HT2.out (by omega) _ _⟩

set_option maxRecDepth 100000 in
set_option maxHeartbeats 4000000 in
theorem do_emit {w : World} {g : Nat} {cs nv pv : Value} {m : Mach} (hM : Mw w g cs nv pv m) (hF : m.Fit) (a b c : Nat) (ha : a < 8) (hb : b < 8) (hc : c < 8) (n : Int) (k : Nat) (hfull : m.chunks < 32) (hT : ∀ wz, Turns (mOwn g nv pv) w wz → TabsAt wz) : Calls Tryz.prog 36 #[.pointer (some ⟨g, 0, none⟩), .agg #[.int .i64 21, .int .i64 (a : Nat), .int .i64 (b : Nat), .int .i64 (c : Nat), .int .i64 n, .int .u64 (k : Nat)]] w fun e w' => e = .returned (.agg #[.int .i64 1, .string ⟨(ftext (m.regs.getD a 0)).toArray⟩]) ∧ Mw w' g cs nv pv { m with chunks := m.chunks + 1 } ∧ Turns (mOwn g nv pv) w w' := by
  have HM0 := Lib.hid hM
  have hlt := hM.lt
  have HR := Lib.hid hF.rlen
  have t1 : (m.chunks : Int) < 32 := by omega
  have qa : m.regs.getD a 0 < 2 * signB := (can_reg hF a ha).1
  have kt := fun w hT => text_any qa w hT
  have hwr : IntKind.i64.wrap ((m.chunks : Int) + 1) = ((m.chunks + 1 : Nat) : Int) := by rw [IntKind.wrap_i64]; omega
  have d0 : w.cell? ⟨g, 14, none⟩ = some (.int .i64 (m.chunks : Nat)) := hM.cells.cell (j := 14) rfl
  have d0f := hM.cells.fz 14
  have HTab := Lib.hid hT
  clear hM hF hT hfull
  go_enter Tryz.func36, Tryz.ntmps36
  go_upto_region 16 with (go_at_call 58; with_reducible (refine (must_yes _ _).mono ?_); rintro _ _ ⟨rfl, rfl⟩)
  have hg1 : g ≠ w.heap.size := by omega
  have hg2 : g ≠ w.heap.size + 1 := by omega
  have HTa : Turns [g] w (w.setCell ⟨g, 14, none⟩ (.int .i64 ((m.chunks : Int) + 1))) := (Turns.refl _ _).set (.inl (by simp)) _
  have HMa : Mw (w.setCell ⟨g, 14, none⟩ (.int .i64 ((m.chunks : Int) + 1))) g cs nv pv { m with chunks := m.chunks + 1 } := HM0.out.block HTa (HM0.out.cells.set 14 (.int .i64 ((m.chunks : Int) + 1))) rfl rfl rfl
  have hsz : (w.setCell ⟨g, 14, none⟩ (.int .i64 ((m.chunks : Int) + 1))).heap.size = w.heap.size := by simp [World.setCell]
  have HX := Lib.hid ((Cells.newAt (w.setCell ⟨g, 14, none⟩ (.int .i64 ((m.chunks : Int) + 1))) 77 #[.int .i64 21, .int .i64 (a : Nat), .int .i64 (b : Nat), .int .i64 (c : Nat), .int .i64 n, .int .u64 (k : Nat)] w.heap.size hsz.symm).alloc (.cells #[.int .i64 0, .string ⟨#[]⟩] 56))
  have HA := Lib.hid (Cells.newAt ((w.setCell ⟨g, 14, none⟩ (.int .i64 ((m.chunks : Int) + 1))).alloc (.cells #[.int .i64 21, .int .i64 (a : Nat), .int .i64 (b : Nat), .int .i64 (c : Nat), .int .i64 n, .int .u64 (k : Nat)] 77)) 56 #[.int .i64 0, .string ⟨#[]⟩] (w.heap.size + 1) (by simp [World.setCell]))
  have HM := Lib.hid ((HMa.alloc (.cells #[.int .i64 21, .int .i64 (a : Nat), .int .i64 (b : Nat), .int .i64 (c : Nat), .int .i64 n, .int .u64 (k : Nat)] 77)).alloc (.cells #[.int .i64 0, .string ⟨#[]⟩] 56))
  have HT2 := Lib.hid (show Turns (mOwn g nv pv) w _ from ((turns_g (nv := nv) (pv := pv) HTa).alloc (.cells #[.int .i64 21, .int .i64 (a : Nat), .int .i64 (b : Nat), .int .i64 (c : Nat), .int .i64 n, .int .u64 (k : Nat)] 77)).alloc (.cells #[.int .i64 0, .string ⟨#[]⟩] 56))
  have HTB := Lib.hid (HTab.out _ HT2.out)
  clear HMa HTa hsz d0 d0f
  generalize ((w.setCell ⟨g, 14, none⟩ (.int .i64 ((m.chunks : Int) + 1))).alloc (.cells #[.int .i64 21, .int .i64 (a : Nat), .int .i64 (b : Nat), .int .i64 (c : Nat), .int .i64 n, .int .u64 (k : Nat)] 77)).alloc (.cells #[.int .i64 0, .string ⟨#[]⟩] 56) = w2 at *
  have y1 : w2.cell? ⟨w.heap.size, 1, none⟩ = some (.int .i64 (a : Nat)) := HX.out.cell (j := 1) rfl
  have r0 : w2.cell? ⟨g, 4 + a, none⟩ = some (.int .u64 (m.regs.getD a 0 : Nat)) := HM.out.cells.cell (cells_reg ({ m with chunks := m.chunks + 1 } : Mach) cs _ pv a ha)
  have f0 := HM.out.cells.fz (4 + a)
  have i0 : (0 : Int) ≤ a := by omega
  have i1 : (a : Int) < 8 := by omega
  obtain ⟨v, hv⟩ : ∃ v, m.regs.getD a 0 = v := ⟨_, rfl⟩
  obtain ⟨tx, htx⟩ : ∃ tx : ByteArray, (⟨(ftext (m.regs.getD a 0)).toArray⟩ : ByteArray) = tx := ⟨_, rfl⟩
  rw [htx, hv] at kt
  rw [hv] at r0
  have HV := Lib.hid hv
  have HTX := Lib.hid htx
  clear hv htx qa f0
  have ktt := Lib.hid kt
  clear kt
  refine wp_region_held_drew (S := fun w' => w'.cell? ⟨w.heap.size, 1, none⟩ = some (.int .i64 (a : Nat)) ∧ w'.cell? ⟨g, 4 + a, none⟩ = some (.int .u64 (v : Nat))) (by kernel_rfl) ⟨y1, r0⟩ (fun hS => ?_)
  refine wpAnyH_take (i := 0) (v := ?_) rfl (by kernel_rfl) (by kernel_rfl) (by kernel_rfl) (fun _ _ _ h => h) (Or.inl ⟨by rfl, ?_⟩) hS ?_
  rotate_left
  · (intro wx hSx; (try dsimp only at hSx); go_simp; (try with_reducible rfl))
  simp only [List.getElem_toArray, List.getElem_cons_zero, Act.put, List.setIfInBounds_toArray, List.set_cons_zero, List.set_cons_succ]
  refine wpAnyH_take (i := 1) (v := ?_) rfl (by kernel_rfl) (by kernel_rfl) (by kernel_rfl) (fun _ _ _ h => h) (Or.inl ⟨by rfl, ?_⟩) hS ?_
  rotate_left
  · (intro wx hSx; (try dsimp only at hSx); go_simp; (try with_reducible rfl))
  simp only [List.getElem_toArray, List.getElem_cons_succ, List.getElem_cons_zero, Act.put, List.setIfInBounds_toArray, List.set_cons_zero, List.set_cons_succ]
  refine wpAnyH_take (i := 2) (v := ?_) rfl (by kernel_rfl) (by kernel_rfl) (by kernel_rfl) (fun _ _ _ h => h) (Or.inl ⟨by rfl, ?_⟩) hS ?_
  rotate_left
  · (intro wx hSx; (try dsimp only at hSx); go_simp; (try with_reducible rfl))
  simp only [List.getElem_toArray, List.getElem_cons_succ, List.getElem_cons_zero, Act.put, List.setIfInBounds_toArray, List.set_cons_zero, List.set_cons_succ]
  refine wpAnyH_take (i := 3) (v := ?_) rfl (by kernel_rfl) (by kernel_rfl) (by kernel_rfl) (fun _ _ _ h => h) (Or.inl ⟨by rfl, ?_⟩) hS ?_
  rotate_left
  · (intro wx hSx; (try dsimp only at hSx); go_simp; (try with_reducible rfl))
  simp only [List.getElem_toArray, List.getElem_cons_succ, List.getElem_cons_zero, Act.put, List.setIfInBounds_toArray, List.set_cons_zero, List.set_cons_succ]
  refine wpAnyH_take (i := 4) (v := ?_) rfl (by kernel_rfl) (by kernel_rfl) (by kernel_rfl) (fun _ _ _ h => h) (Or.inl ⟨by rfl, ?_⟩) hS ?_
  rotate_left
  · (intro wx hSx; (try dsimp only at hSx); go_simp; (try with_reducible rfl))
  simp only [List.getElem_toArray, List.getElem_cons_succ, List.getElem_cons_zero, Act.put, List.setIfInBounds_toArray, List.set_cons_zero, List.set_cons_succ]
  refine wpAnyH_take (i := 5) (v := ?_) rfl (by kernel_rfl) (by kernel_rfl) (by kernel_rfl) (fun _ _ _ h => h) (Or.inl ⟨by rfl, ?_⟩) hS ?_
  rotate_left
  · (intro wx hSx; (try dsimp only at hSx); go_simp; (try with_reducible rfl))
  simp only [List.getElem_toArray, List.getElem_cons_succ, List.getElem_cons_zero, Act.put, List.setIfInBounds_toArray, List.set_cons_zero, List.set_cons_succ]
  refine wpAnyH_take (i := 6) (v := ?_) rfl (by kernel_rfl) (by kernel_rfl) (by kernel_rfl) (fun _ _ _ h => h) (Or.inl ⟨by rfl, ?_⟩) hS ?_
  rotate_left
  · (intro wx hSx; (try dsimp only at hSx); go_simp; (try with_reducible rfl))
  simp only [List.getElem_toArray, List.getElem_cons_succ, List.getElem_cons_zero, Act.put, List.setIfInBounds_toArray, List.set_cons_zero, List.set_cons_succ]
  refine wpAnyH_ready (rs := [7]) (by kernel_rfl) (by simp) ?_
  refine AllReadyH.cons rfl (fun K hK => ?_) AllReadyH.nil
  go_simp
  go_at_call 59
  refine (ktt.out _ (show TabsAt w2.drew from HTB.out)).mono ?_
  rintro _ wq ⟨rfl, hbq⟩
  have HQ := Lib.hid (show Below w2.heap.size w2 wq from ⟨hbq.os, hbq.tape, hbq.output, hbq.size, hbq.block⟩)
  have HXq := Lib.hid (Cells.keep HX.out HQ.out)
  have HMq := Lib.hid (Mw.keep HM.out HQ.out)
  have HAq := Lib.hid (Cells.keep HA.out HQ.out)
  clear hbq
  have z0 := HAq.out.cell (j := 0) rfl
  have z1 := HAq.out.cell (j := 1) rfl
  have zf0 := HAq.out.fz 0
  have zf1 := HAq.out.fz 1
  have q4 : wq.cell? ⟨w.heap.size, 1, none⟩ = some (.int .i64 (a : Nat)) ∧ wq.cell? ⟨g, 4 + a, none⟩ = some (.int .u64 (v : Nat)) := ⟨HXq.out.cell (j := 1) rfl, (HQ.out.cell (p := ⟨g, 4 + a, none⟩) HM.out.lt).trans r0⟩
  have q5 : ∀ u u', ((wq.setCell ⟨w.heap.size + 1, 0, none⟩ u).setCell ⟨w.heap.size + 1, 1, none⟩ u').cell? ⟨w.heap.size, 1, none⟩ = some (.int .i64 (a : Nat)) ∧ ((wq.setCell ⟨w.heap.size + 1, 0, none⟩ u).setCell ⟨w.heap.size + 1, 1, none⟩ u').cell? ⟨g, 4 + a, none⟩ = some (.int .u64 (v : Nat)) := fun u u' => ⟨((HXq.out.far (a := ⟨w.heap.size + 1, 0, none⟩) (by simp) u).far (a := ⟨w.heap.size + 1, 1, none⟩) (by simp) u').cell (j := 1) rfl, ((World.cell?_setCell_other _ _ _ _ (by first | (simp; done) | (simp; omega))).trans (World.cell?_setCell_other _ _ _ _ (by first | (simp; done) | (simp; omega)))).trans q4.2⟩
  refine hK.out _ _ (by first | with_reducible exact hS | with_reducible exact q4 | with_reducible exact q5 _ _ | exact hS | exact q5 _ _) (fun hS => ?_)
  clear hK K
  try simp only [Act.put, List.setIfInBounds_toArray, List.set_cons_zero, List.set_cons_succ]
  refine wpAnyH_ready (rs := [8]) (by kernel_rfl) (by simp) ?_
  refine AllReadyH.cons rfl (fun K hK => ?_) AllReadyH.nil
  go_simp
  refine hK.out _ _ (by first | with_reducible exact hS | with_reducible exact q4 | with_reducible exact q5 _ _ | exact hS | exact q5 _ _) (fun hS => ?_)
  clear hK K
  try simp only [Act.put, List.setIfInBounds_toArray, List.set_cons_zero, List.set_cons_succ]
  refine wpAnyH_ready (rs := [9]) (by kernel_rfl) (by simp) ?_
  refine AllReadyH.cons rfl (fun K hK => ?_) AllReadyH.nil
  go_simp
  refine hK.out _ _ (by first | with_reducible exact hS | with_reducible exact q4 | with_reducible exact q5 _ _ | exact hS | exact q5 _ _) (fun hS => ?_)
  clear hK K
  try simp only [Act.put, List.setIfInBounds_toArray, List.set_cons_zero, List.set_cons_succ]
  refine wpAnyH_done (by kernel_rfl) ?_ _
  have HS := Lib.hid (act_end HMq.out HAq.out (turns_keep (S := mOwn g nv pv) (Below.refl _ w) (HT2.out.trans (Turns.of_below HQ.out))) (by omega) (.int .i64 1) (.string tx))
  have HA3 := Lib.hid (show Cells ((wq.setCell ⟨w.heap.size + 1, 0, none⟩ (.int .i64 1)).setCell ⟨w.heap.size + 1, 1, none⟩ (.string tx)) (w.heap.size + 1) 56 #[.int .i64 1, .string tx] from (HAq.out.set 0 (.int .i64 1)).set 1 (.string tx))
  clear q4 q5 y1 r0 z0 z1 zf0 zf1 hS
  try change Exit.then _ _ Exit.normal _ ((wq.setCell ⟨w.heap.size + 1, 0, none⟩ (.int .i64 1)).setCell ⟨w.heap.size + 1, 1, none⟩ (.string tx))
  generalize (wq.setCell ⟨w.heap.size + 1, 0, none⟩ (.int .i64 1)).setCell ⟨w.heap.size + 1, 1, none⟩ (.string tx) = w3 at *
  have a0 : w3.cell? ⟨w.heap.size + 1, 0, none⟩ = some (.int .i64 1) := HA3.out.cell (j := 0) rfl
  have a1 : w3.cell? ⟨w.heap.size + 1, 1, none⟩ = some (.string tx) := HA3.out.cell (j := 1) rfl
  go_wp2_with fail
  refine bodyPost_ret (v := .agg #[.int .i64 1, .string tx]) (by simp [results, Tryz.results36, go_sem, *]) rfl ?_
  exact ⟨by first | rw [HTX.out] | (rw [← HTX.out]), HS.out⟩

set_option maxRecDepth 100000 in
set_option maxHeartbeats 4000000 in
theorem do_write {w : World} {g : Nat} {cs nv pv : Value} {m : Mach} (hM : Mw w g cs nv pv m) (hF : m.Fit) (a b c : Nat) (ha : a < 8) (hb : b < 8) (hc : c < 8) (n : Int) (k : Nat) (hfull : m.pieces < 16) (hT : ∀ wz, Turns (mOwn g nv pv) w wz → TabsAt wz) : Calls Tryz.prog 36 #[.pointer (some ⟨g, 0, none⟩), .agg #[.int .i64 22, .int .i64 (a : Nat), .int .i64 (b : Nat), .int .i64 (c : Nat), .int .i64 n, .int .u64 (k : Nat)]] w fun e w' => e = .returned (.agg #[.int .i64 2, .string ⟨(ftext (m.regs.getD a 0)).toArray⟩]) ∧ Mw w' g cs nv pv { m with pieces := m.pieces + 1 } ∧ Turns (mOwn g nv pv) w w' := by
  have HM0 := Lib.hid hM
  have hlt := hM.lt
  have HR := Lib.hid hF.rlen
  have t1 : (m.pieces : Int) < 16 := by omega
  have qa : m.regs.getD a 0 < 2 * signB := (can_reg hF a ha).1
  have kt := fun w hT => text_any qa w hT
  have hwr : IntKind.i64.wrap ((m.pieces : Int) + 1) = ((m.pieces + 1 : Nat) : Int) := by rw [IntKind.wrap_i64]; omega
  have d0 : w.cell? ⟨g, 15, none⟩ = some (.int .i64 (m.pieces : Nat)) := hM.cells.cell (j := 15) rfl
  have d0f := hM.cells.fz 15
  have HTab := Lib.hid hT
  clear hM hF hT hfull
  go_enter Tryz.func36, Tryz.ntmps36
  go_upto_region 20 with (go_at_call 58; with_reducible (refine (must_yes _ _).mono ?_); rintro _ _ ⟨rfl, rfl⟩)
  have hg1 : g ≠ w.heap.size := by omega
  have hg2 : g ≠ w.heap.size + 1 := by omega
  have HTa : Turns [g] w (w.setCell ⟨g, 15, none⟩ (.int .i64 ((m.pieces : Int) + 1))) := (Turns.refl _ _).set (.inl (by simp)) _
  have HMa : Mw (w.setCell ⟨g, 15, none⟩ (.int .i64 ((m.pieces : Int) + 1))) g cs nv pv { m with pieces := m.pieces + 1 } := HM0.out.block HTa (HM0.out.cells.set 15 (.int .i64 ((m.pieces : Int) + 1))) rfl rfl rfl
  have hsz : (w.setCell ⟨g, 15, none⟩ (.int .i64 ((m.pieces : Int) + 1))).heap.size = w.heap.size := by simp [World.setCell]
  have HX := Lib.hid ((Cells.newAt (w.setCell ⟨g, 15, none⟩ (.int .i64 ((m.pieces : Int) + 1))) 77 #[.int .i64 22, .int .i64 (a : Nat), .int .i64 (b : Nat), .int .i64 (c : Nat), .int .i64 n, .int .u64 (k : Nat)] w.heap.size hsz.symm).alloc (.cells #[.int .i64 0, .string ⟨#[]⟩] 56))
  have HA := Lib.hid (Cells.newAt ((w.setCell ⟨g, 15, none⟩ (.int .i64 ((m.pieces : Int) + 1))).alloc (.cells #[.int .i64 22, .int .i64 (a : Nat), .int .i64 (b : Nat), .int .i64 (c : Nat), .int .i64 n, .int .u64 (k : Nat)] 77)) 56 #[.int .i64 0, .string ⟨#[]⟩] (w.heap.size + 1) (by simp [World.setCell]))
  have HM := Lib.hid ((HMa.alloc (.cells #[.int .i64 22, .int .i64 (a : Nat), .int .i64 (b : Nat), .int .i64 (c : Nat), .int .i64 n, .int .u64 (k : Nat)] 77)).alloc (.cells #[.int .i64 0, .string ⟨#[]⟩] 56))
  have HT2 := Lib.hid (show Turns (mOwn g nv pv) w _ from ((turns_g (nv := nv) (pv := pv) HTa).alloc (.cells #[.int .i64 22, .int .i64 (a : Nat), .int .i64 (b : Nat), .int .i64 (c : Nat), .int .i64 n, .int .u64 (k : Nat)] 77)).alloc (.cells #[.int .i64 0, .string ⟨#[]⟩] 56))
  have HTB := Lib.hid (HTab.out _ HT2.out)
  clear HMa HTa hsz d0 d0f
  generalize ((w.setCell ⟨g, 15, none⟩ (.int .i64 ((m.pieces : Int) + 1))).alloc (.cells #[.int .i64 22, .int .i64 (a : Nat), .int .i64 (b : Nat), .int .i64 (c : Nat), .int .i64 n, .int .u64 (k : Nat)] 77)).alloc (.cells #[.int .i64 0, .string ⟨#[]⟩] 56) = w2 at *
  have y1 : w2.cell? ⟨w.heap.size, 1, none⟩ = some (.int .i64 (a : Nat)) := HX.out.cell (j := 1) rfl
  have r0 : w2.cell? ⟨g, 4 + a, none⟩ = some (.int .u64 (m.regs.getD a 0 : Nat)) := HM.out.cells.cell (cells_reg ({ m with pieces := m.pieces + 1 } : Mach) cs _ pv a ha)
  have f0 := HM.out.cells.fz (4 + a)
  have i0 : (0 : Int) ≤ a := by omega
  have i1 : (a : Int) < 8 := by omega
  obtain ⟨v, hv⟩ : ∃ v, m.regs.getD a 0 = v := ⟨_, rfl⟩
  obtain ⟨tx, htx⟩ : ∃ tx : ByteArray, (⟨(ftext (m.regs.getD a 0)).toArray⟩ : ByteArray) = tx := ⟨_, rfl⟩
  rw [htx, hv] at kt
  rw [hv] at r0
  have HV := Lib.hid hv
  have HTX := Lib.hid htx
  clear hv htx qa f0
  have ktt := Lib.hid kt
  clear kt
  refine wp_region_held_drew (S := fun w' => w'.cell? ⟨w.heap.size, 1, none⟩ = some (.int .i64 (a : Nat)) ∧ w'.cell? ⟨g, 4 + a, none⟩ = some (.int .u64 (v : Nat))) (by kernel_rfl) ⟨y1, r0⟩ (fun hS => ?_)
  refine wpAnyH_take (i := 0) (v := ?_) rfl (by kernel_rfl) (by kernel_rfl) (by kernel_rfl) (fun _ _ _ h => h) (Or.inl ⟨by rfl, ?_⟩) hS ?_
  rotate_left
  · (intro wx hSx; (try dsimp only at hSx); go_simp; (try with_reducible rfl))
  simp only [List.getElem_toArray, List.getElem_cons_zero, Act.put, List.setIfInBounds_toArray, List.set_cons_zero, List.set_cons_succ]
  refine wpAnyH_take (i := 1) (v := ?_) rfl (by kernel_rfl) (by kernel_rfl) (by kernel_rfl) (fun _ _ _ h => h) (Or.inl ⟨by rfl, ?_⟩) hS ?_
  rotate_left
  · (intro wx hSx; (try dsimp only at hSx); go_simp; (try with_reducible rfl))
  simp only [List.getElem_toArray, List.getElem_cons_succ, List.getElem_cons_zero, Act.put, List.setIfInBounds_toArray, List.set_cons_zero, List.set_cons_succ]
  refine wpAnyH_take (i := 2) (v := ?_) rfl (by kernel_rfl) (by kernel_rfl) (by kernel_rfl) (fun _ _ _ h => h) (Or.inl ⟨by rfl, ?_⟩) hS ?_
  rotate_left
  · (intro wx hSx; (try dsimp only at hSx); go_simp; (try with_reducible rfl))
  simp only [List.getElem_toArray, List.getElem_cons_succ, List.getElem_cons_zero, Act.put, List.setIfInBounds_toArray, List.set_cons_zero, List.set_cons_succ]
  refine wpAnyH_take (i := 3) (v := ?_) rfl (by kernel_rfl) (by kernel_rfl) (by kernel_rfl) (fun _ _ _ h => h) (Or.inl ⟨by rfl, ?_⟩) hS ?_
  rotate_left
  · (intro wx hSx; (try dsimp only at hSx); go_simp; (try with_reducible rfl))
  simp only [List.getElem_toArray, List.getElem_cons_succ, List.getElem_cons_zero, Act.put, List.setIfInBounds_toArray, List.set_cons_zero, List.set_cons_succ]
  refine wpAnyH_take (i := 4) (v := ?_) rfl (by kernel_rfl) (by kernel_rfl) (by kernel_rfl) (fun _ _ _ h => h) (Or.inl ⟨by rfl, ?_⟩) hS ?_
  rotate_left
  · (intro wx hSx; (try dsimp only at hSx); go_simp; (try with_reducible rfl))
  simp only [List.getElem_toArray, List.getElem_cons_succ, List.getElem_cons_zero, Act.put, List.setIfInBounds_toArray, List.set_cons_zero, List.set_cons_succ]
  refine wpAnyH_take (i := 5) (v := ?_) rfl (by kernel_rfl) (by kernel_rfl) (by kernel_rfl) (fun _ _ _ h => h) (Or.inl ⟨by rfl, ?_⟩) hS ?_
  rotate_left
  · (intro wx hSx; (try dsimp only at hSx); go_simp; (try with_reducible rfl))
  simp only [List.getElem_toArray, List.getElem_cons_succ, List.getElem_cons_zero, Act.put, List.setIfInBounds_toArray, List.set_cons_zero, List.set_cons_succ]
  refine wpAnyH_take (i := 6) (v := ?_) rfl (by kernel_rfl) (by kernel_rfl) (by kernel_rfl) (fun _ _ _ h => h) (Or.inl ⟨by rfl, ?_⟩) hS ?_
  rotate_left
  · (intro wx hSx; (try dsimp only at hSx); go_simp; (try with_reducible rfl))
  simp only [List.getElem_toArray, List.getElem_cons_succ, List.getElem_cons_zero, Act.put, List.setIfInBounds_toArray, List.set_cons_zero, List.set_cons_succ]
  refine wpAnyH_ready (rs := [7]) (by kernel_rfl) (by simp) ?_
  refine AllReadyH.cons rfl (fun K hK => ?_) AllReadyH.nil
  go_simp
  go_at_call 59
  refine (ktt.out _ (show TabsAt w2.drew from HTB.out)).mono ?_
  rintro _ wq ⟨rfl, hbq⟩
  have HQ := Lib.hid (show Below w2.heap.size w2 wq from ⟨hbq.os, hbq.tape, hbq.output, hbq.size, hbq.block⟩)
  have HXq := Lib.hid (Cells.keep HX.out HQ.out)
  have HMq := Lib.hid (Mw.keep HM.out HQ.out)
  have HAq := Lib.hid (Cells.keep HA.out HQ.out)
  clear hbq
  have z0 := HAq.out.cell (j := 0) rfl
  have z1 := HAq.out.cell (j := 1) rfl
  have zf0 := HAq.out.fz 0
  have zf1 := HAq.out.fz 1
  have q4 : wq.cell? ⟨w.heap.size, 1, none⟩ = some (.int .i64 (a : Nat)) ∧ wq.cell? ⟨g, 4 + a, none⟩ = some (.int .u64 (v : Nat)) := ⟨HXq.out.cell (j := 1) rfl, (HQ.out.cell (p := ⟨g, 4 + a, none⟩) HM.out.lt).trans r0⟩
  have q5 : ∀ u u', ((wq.setCell ⟨w.heap.size + 1, 0, none⟩ u).setCell ⟨w.heap.size + 1, 1, none⟩ u').cell? ⟨w.heap.size, 1, none⟩ = some (.int .i64 (a : Nat)) ∧ ((wq.setCell ⟨w.heap.size + 1, 0, none⟩ u).setCell ⟨w.heap.size + 1, 1, none⟩ u').cell? ⟨g, 4 + a, none⟩ = some (.int .u64 (v : Nat)) := fun u u' => ⟨((HXq.out.far (a := ⟨w.heap.size + 1, 0, none⟩) (by simp) u).far (a := ⟨w.heap.size + 1, 1, none⟩) (by simp) u').cell (j := 1) rfl, ((World.cell?_setCell_other _ _ _ _ (by first | (simp; done) | (simp; omega))).trans (World.cell?_setCell_other _ _ _ _ (by first | (simp; done) | (simp; omega)))).trans q4.2⟩
  refine hK.out _ _ (by first | with_reducible exact hS | with_reducible exact q4 | with_reducible exact q5 _ _ | exact hS | exact q5 _ _) (fun hS => ?_)
  clear hK K
  try simp only [Act.put, List.setIfInBounds_toArray, List.set_cons_zero, List.set_cons_succ]
  refine wpAnyH_ready (rs := [8]) (by kernel_rfl) (by simp) ?_
  refine AllReadyH.cons rfl (fun K hK => ?_) AllReadyH.nil
  go_simp
  refine hK.out _ _ (by first | with_reducible exact hS | with_reducible exact q4 | with_reducible exact q5 _ _ | exact hS | exact q5 _ _) (fun hS => ?_)
  clear hK K
  try simp only [Act.put, List.setIfInBounds_toArray, List.set_cons_zero, List.set_cons_succ]
  refine wpAnyH_ready (rs := [9]) (by kernel_rfl) (by simp) ?_
  refine AllReadyH.cons rfl (fun K hK => ?_) AllReadyH.nil
  go_simp
  refine hK.out _ _ (by first | with_reducible exact hS | with_reducible exact q4 | with_reducible exact q5 _ _ | exact hS | exact q5 _ _) (fun hS => ?_)
  clear hK K
  try simp only [Act.put, List.setIfInBounds_toArray, List.set_cons_zero, List.set_cons_succ]
  refine wpAnyH_done (by kernel_rfl) ?_ _
  have HS := Lib.hid (act_end HMq.out HAq.out (turns_keep (S := mOwn g nv pv) (Below.refl _ w) (HT2.out.trans (Turns.of_below HQ.out))) (by omega) (.int .i64 2) (.string tx))
  have HA3 := Lib.hid (show Cells ((wq.setCell ⟨w.heap.size + 1, 0, none⟩ (.int .i64 2)).setCell ⟨w.heap.size + 1, 1, none⟩ (.string tx)) (w.heap.size + 1) 56 #[.int .i64 2, .string tx] from (HAq.out.set 0 (.int .i64 2)).set 1 (.string tx))
  clear q4 q5 y1 r0 z0 z1 zf0 zf1 hS
  try change Exit.then _ _ Exit.normal _ ((wq.setCell ⟨w.heap.size + 1, 0, none⟩ (.int .i64 2)).setCell ⟨w.heap.size + 1, 1, none⟩ (.string tx))
  generalize (wq.setCell ⟨w.heap.size + 1, 0, none⟩ (.int .i64 2)).setCell ⟨w.heap.size + 1, 1, none⟩ (.string tx) = w3 at *
  have a0 : w3.cell? ⟨w.heap.size + 1, 0, none⟩ = some (.int .i64 2) := HA3.out.cell (j := 0) rfl
  have a1 : w3.cell? ⟨w.heap.size + 1, 1, none⟩ = some (.string tx) := HA3.out.cell (j := 1) rfl
  go_wp2_with fail
  refine bodyPost_ret (v := .agg #[.int .i64 2, .string tx]) (by simp [results, Tryz.results36, go_sem, *]) rfl ?_
  exact ⟨by first | rw [HTX.out] | (rw [← HTX.out]), HS.out⟩

end Go.Proofs.YtjloiclbknfomaaGreatDoor
