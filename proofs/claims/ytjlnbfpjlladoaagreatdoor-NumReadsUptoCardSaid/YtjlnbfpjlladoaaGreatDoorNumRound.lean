/- The document's 'rounded': a number of 128 bits and an exponent, rounded to the nearest number (contract). -/
import Derived.Test.YtjlnbfpjlladoaaGreatDoorNumWide2
import Derived.Deep.DeepCutAuto
import Derived.Deep.RegionWith
set_option maxRecDepth 100000
namespace Go.Proofs.YtjlnbfpjlladoaaGreatDoor
open Go.RowKit Ieee

/-- what stands in the amount's variable at the end -/
def rndMid (w : Nat) (e : Int) (rest : Bool) : Nat := if rndQ w e - e ≤ 0 then w * 2 ^ (e - rndQ w e).toNat else rndM w (rndQ w e - e).toNat rest
theorem rndR_is (w : Nat) (e : Int) (rest : Bool) : rndR w e rest = if 127 < rndQ w e - e then 0 else if 971 < rndQ w e then infB else if infB ≤ (rndQ w e + 1074).toNat * 4503599627370496 + rndMid w e rest then infB else (rndQ w e + 1074).toNat * 4503599627370496 + rndMid w e rest := rfl
def sgn (s : Bool) : Nat := if s then 9223372036854775808 else 0
theorem word_sgn (s : Bool) (r : Nat) : D.word s r = sgn s + r := by
  unfold Format.word sgn
  rw [D_sw]
  cases s <;> simp
theorem or_sgn (s : Bool) {r : Nat} (hr : r < 9223372036854775808) : bits .or .u64 ((sgn s : Nat) : Int) ((r : Nat) : Int) = ((sgn s + r : Nat) : Int) := by
  have h := u64_or_nat (sgn s) r (by unfold sgn; split <;> omega) (by omega)
  have e : sgn s ||| r = sgn s + r := by
    cases s
    · show 0 ||| r = 0 + r
      rw [Nat.zero_or, Nat.zero_add]
    · exact nat_join 63 9223372036854775808 r (by decide) hr
  rw [e] at h
  exact h
theorem bel_drew {w x : World} (h : Below w.heap.size w x) : Below w.heap.size w x.drew := ⟨h.os, h.tape, h.output, h.size, h.block⟩
theorem cell_off (w : World) {p q : Addr} (h : q.block ≠ p.block) (v : Value) : (w.setCell q v).cell? p = w.cell? p := by
  have hb := Below.heap_setCell w q v p.block (fun e => h e.symm)
  unfold World.cell?
  rw [hb]
theorem wide_eql (a b : Nat) (w : World) (ha : a < 340282366920938463463374607431768211456) (hb : b < 340282366920938463463374607431768211456) : (binOp .eql 42 (.agg #[.int .u64 (((a : Nat) : Int) / 18446744073709551616), .int .u64 (((a : Nat) : Int) % 18446744073709551616)]) (.agg #[.int .u64 (((b : Nat) : Int) / 18446744073709551616), .int .u64 (((b : Nat) : Int) % 18446744073709551616)])).run Tryz.prog w = .ok (.bool (decide (a = b))) w := by
  simp [go_sem]
  by_cases h : a = b
  · subst h
    simp
  · rw [decide_eq_false h]
    repeat' split
    all_goals first | rfl | (exfalso; omega)
theorem WAt.up {w : World} {g n : Nat} (h : WAt w g n) (hn : n < 9007199254740992) : WAt (w.setCell ⟨g, 1, none⟩ (.int .u64 (((n : Nat) : Int) + 1))) g (n + 1) := by
  have h2 := Cells.set h 1 (.int .u64 (((n : Nat) : Int) + 1))
  have e : (wc n).setIfInBounds 1 (.int .u64 (((n : Nat) : Int) + 1)) = wc (n + 1) := by
    unfold wc
    rw [show (((n + 1 : Nat)) : Int) / 18446744073709551616 = ((n : Nat) : Int) / 18446744073709551616 from by omega, show (((n + 1 : Nat)) : Int) % 18446744073709551616 = ((n : Nat) : Int) + 1 from by omega]
    rfl
  rw [e] at h2
  exact h2
theorem rndMid_le (w : Nat) (e : Int) (rest : Bool) : rndMid w e rest ≤ 9007199254740992 := by
  unfold rndMid
  by_cases h : rndQ w e - e ≤ 0
  · rw [if_pos h]
    exact Nat.le_of_lt (rnd_left h).1
  · rw [if_neg h]
    have := rnd_right (w := w) (e := e) (by omega)
    unfold rndM
    split <;> omega
theorem rndQ_ge (w : Nat) (e : Int) : -1074 ≤ rndQ w e := by
  unfold rndQ
  split <;> omega

set_option maxHeartbeats 8000000 in
set_option maxRecDepth 100000 in
theorem rounded_any (s rest : Bool) {w : Nat} {e : Int} (hw : w < 340282366920938463463374607431768211456) (he0 : -5000 ≤ e) (he1 : e ≤ 5000) (W : World) :
    Calls Tryz.prog 44 #[.int .u64 ((sgn s : Nat) : Int), wv w, .int .i64 e, .bool rest] W fun x W' => x = .returned (.int .u64 ((rnd s w e rest : Nat) : Int)) ∧ Below W.heap.size W W' := by
  have hL := bitLen_le (n := w) (k := 128) hw
  have kl : ∀ x : World, Calls Tryz.prog 72 #[.agg #[.int .u64 (((w : Nat) : Int) / 18446744073709551616), .int .u64 (((w : Nat) : Int) % 18446744073709551616)]] x fun r x' => r = .returned (.int .i64 ((bitLen w : Nat) : Int)) ∧ Below x.heap.size x x' := fun x => wlength_any hw x
  have hQ : rndQ w e = if e + ((bitLen w : Nat) : Int) - 53 < -1074 then -1074 else e + ((bitLen w : Nat) : Int) - 53 := rfl
  have hq0 := rndQ_ge w e
  have hq1 : rndQ w e ≤ 6000 := by
    rw [hQ]
    split <;> omega
  have HR : Hid (rnd s w e rest = sgn s + rndR w e rest) := word_sgn s _
  have HRR := Lib.hid (rndR_is w e rest)
  have hm := rndMid_le w e rest
  have HM : Hid (rndMid w e rest = if rndQ w e - e ≤ 0 then w * 2 ^ (e - rndQ w e).toNat else rndM w (rndQ w e - e).toNat rest) := rfl
  have HLeft := Lib.hid (@rnd_left w e)
  have HRight := Lib.hid (@rnd_right w e)
  obtain ⟨Q, hQQ⟩ : ∃ Q : Int, Q = rndQ w e := ⟨_, rfl⟩
  obtain ⟨m, hmm⟩ : ∃ m : Nat, m = rndMid w e rest := ⟨_, rfl⟩
  rw [← hQQ] at hQ hq0 hq1 HRR HM HLeft HRight
  rw [← hmm] at hm HRR HM
  clear hmm hQQ
  obtain ⟨L, hLL⟩ : ∃ L : Int, L = ((bitLen w : Nat) : Int) := ⟨_, rfl⟩
  have hL1 : 0 ≤ L ∧ L ≤ 128 := by omega
  rw [← hLL] at kl hQ
  clear hLL hL
  have HQ := Lib.hid hQ
  clear hQ
  have HW := Lib.hid hw
  clear hw
  have a1 : IntKind.i64.wrap (e + L) = e + L := by
    rw [IntKind.wrap_i64]
    omega
  have a2 : IntKind.i64.wrap (e + L - 53) = e + L - 53 := by
    rw [IntKind.wrap_i64]
    omega
  have a3 : IntKind.i64.wrap (Q - e) = Q - e := by
    rw [IntKind.wrap_i64]
    omega
  rw [wv_is]
  go_enter Tryz.func44, Tryz.ntmps44
  go_upto_if 23 with ((go_at_call 72; go_loud (refine (kl _).mono ?_; rintro x w1 ⟨rfl, hb⟩; have H5 := Lib.hid (Cells.keep (Cells.new W 42 (wc w)) hb); have HB := Lib.hid (grow_to (bel_alloc (Below.refl _ W) _) hb); clear hb)))
  go_cut [9] (fun s9 wx => s9 = .int .i64 Q ∧ WAt wx W.heap.size w ∧ Below W.heap.size W wx)
  case first =>
    by_cases c : e + L - 53 < -1074
    · have HC : Hid (Q = -1074) := by
        have h := HQ.out
        rw [if_pos c] at h
        exact h
      go_wp2
      go_meet
      exact ⟨by rw [HC.out], H5.out, HB.out⟩
    · have HC : Hid (Q = e + L - 53) := by
        have h := HQ.out
        rw [if_neg c] at h
        exact h
      go_wp2
      go_meet
      exact ⟨by rw [HC.out], H5.out, HB.out⟩
  case rest =>
    obtain ⟨rfl, h5, hB⟩ := hcut
    have HB := Lib.hid hB
    have d0 := WAt.c0 h5
    have d1 := WAt.c1 h5
    have H5 := Lib.hid h5
    clear h5 hB a1 a2 HQ hL1 kl
    by_cases hA : 127 < Q - e
    · have HV : Hid (rnd s w e rest = sgn s) := by
        have h := HRR.out
        rw [if_pos hA] at h
        have h2 := HR.out
        rw [h] at h2
        exact h2
      go_wp2
      go_ret
      exact ⟨by rw [HV.out]; rfl, HB.out⟩
    · have hlt5 : W.heap.size < wc.heap.size := Cells.lt H5.out
      go_upto_if 32 with (fail)
      obtain ⟨wd, rfl⟩ : ∃ wd : World, wd = wc := ⟨wc, rfl⟩
      go_cut [11] (fun s11 wx => s11 = .pointer (some ⟨wd.heap.size, 0, none⟩) ∧ WAt wx wd.heap.size m ∧ Below W.heap.size W wx)
      case first =>
        have HN := Lib.hid (Cells.new wd 42 (wc w))
        by_cases hB0 : Q - e ≤ 0
        · obtain ⟨hl1, hl2⟩ := HLeft.out hB0
          obtain ⟨k, hk⟩ : ∃ k : Nat, k = (e - Q).toNat := ⟨_, rfl⟩
          have hmk : m = w * 2 ^ k := by
            have h := HM.out
            rw [if_pos hB0, ← hk] at h
            exact h
          rw [← hk] at hl1 hl2
          have kl := fun x => wleft_any (n := w) (k := k) (by omega) (by omega) x
          rw [← hmk] at kl
          have hki : ((k : Nat) : Int) = -(Q - e) := by omega
          rw [hki] at kl
          have n1 : IntKind.i64.wrap (-(Q - e)) = -(Q - e) := by
            rw [IntKind.wrap_i64]
            omega
          have kl2 : ∀ x : World, Calls Tryz.prog 43 #[.agg #[.int .u64 (((w : Nat) : Int) / 18446744073709551616), .int .u64 (((w : Nat) : Int) % 18446744073709551616)], .int .i64 (-(Q - e))] x fun r x' => r = .returned (.agg #[.int .u64 (((m : Nat) : Int) / 18446744073709551616), .int .u64 (((m : Nat) : Int) % 18446744073709551616)]) ∧ Below x.heap.size x x' := kl
          obtain ⟨N, hN⟩ : ∃ N : Int, N = -(Q - e) := ⟨_, rfl⟩
          clear kl hl1 hl2 hk hmk hki
          go_wp2_with (go_at_call 43; go_loud (refine (kl2 _).mono ?_; rintro x w3 ⟨rfl, hb3⟩; have hC := Cells.keep HN.out hb3; have s0 := Cells.fz hC 0; have s1 := Cells.fz hC 1; have d0 := WAt.c0 hC; have d1 := WAt.c1 hC; have HC := Lib.hid hC; have HB3 := Lib.hid (grow_to (bel_alloc HB.out _) hb3); clear hC hb3))
          go_meet
          exact ⟨rfl, WAt.store HC.out, bel_store HB3.out (Nat.le_of_lt hlt5) _ _⟩
        · have hr1 := HRight.out (by omega)
          obtain ⟨k, hk⟩ : ∃ k : Nat, k = (Q - e).toNat := ⟨_, rfl⟩
          have hki : ((k : Nat) : Int) = Q - e := by omega
          have hk1 : 1 ≤ k := by omega
          have hk2 : k ≤ 127 := by omega
          have hmk : m = rndM w k rest := by
            have h := HM.out
            rw [if_neg hB0, ← hk] at h
            exact h
          rw [← hk] at hr1
          have kr := fun x => wright_any (n := w) (k := k) (by omega) HW.out x
          rw [hki] at kr
          obtain ⟨v, hv⟩ : ∃ v, v = w / 2 ^ k := ⟨_, rfl⟩
          rw [← hv] at kr hr1
          have kr2 : ∀ x : World, Calls Tryz.prog 73 #[.agg #[.int .u64 (((w : Nat) : Int) / 18446744073709551616), .int .u64 (((w : Nat) : Int) % 18446744073709551616)], .int .i64 (Q - e)] x fun r x' => r = .returned (.agg #[.int .u64 (((v : Nat) : Int) / 18446744073709551616), .int .u64 (((v : Nat) : Int) % 18446744073709551616)]) ∧ Below x.heap.size x x' := kr
          have HK := Lib.hid hk
          have HV := Lib.hid hv
          have HMK := Lib.hid hmk
          have HKI := Lib.hid hki
          clear kr hk hv hmk hki
          go_upto_region 11 with (go_at_call 73; go_loud (refine (kr2 _).mono ?_; rintro x w3 ⟨rfl, hb3⟩; have hC := Cells.keep HN.out hb3; have s0 := Cells.fz hC 0; have s1 := Cells.fz hC 1; have d0 := WAt.c0 hC; have d1 := WAt.c1 hC; have HC := Lib.hid hC; have HC5 := Lib.hid (Cells.keep (Cells.alloc H5.out _) hb3); have HB3 := Lib.hid (grow_to (bel_alloc HB.out _) hb3); clear hC hb3))
          have hG : W.heap.size ≠ wd.heap.size := by omega
          have HCG := Lib.hid (WAt.store (m := v) HC.out)
          have HC5' := Lib.hid (Cells.far (Cells.far HC5.out (a := ⟨wd.heap.size, 0, none⟩) hG (.int .u64 (((v : Nat) : Int) / 18446744073709551616))) (a := ⟨wd.heap.size, 1, none⟩) hG (.int .u64 (((v : Nat) : Int) % 18446744073709551616)))
          have HB3' := Lib.hid (bel_store HB3.out (Nat.le_of_lt hlt5) (.int .u64 (((v : Nat) : Int) / 18446744073709551616)) (.int .u64 (((v : Nat) : Int) % 18446744073709551616)))
          obtain ⟨wy, hwy⟩ : ∃ wy, wy = (w3.setCell ⟨wd.heap.size, 0, none⟩ (.int .u64 (((v : Nat) : Int) / 18446744073709551616))).setCell ⟨wd.heap.size, 1, none⟩ (.int .u64 (((v : Nat) : Int) % 18446744073709551616)) := ⟨_, rfl⟩
          rw [← hwy] at HCG HC5' HB3' ⊢
          have e0 := WAt.c0 HC5'.out
          have e1 := WAt.c1 HC5'.out
          have g0 := WAt.c0 HCG.out
          have g1 := WAt.c1 HCG.out
          clear hwy HC HC5 HB3 kr2 s0 s1 d0 d1
          obtain ⟨u, hu⟩ : ∃ u, u = v * 2 ^ k := ⟨_, rfl⟩
          obtain ⟨c, hc⟩ : ∃ c, c = w % 2 ^ k := ⟨_, rfl⟩
          have hcut := cut_is w k
          rw [← HV.out, ← hu, ← hc] at hcut
          have hWW := HW.out
          have kl3 := fun x => wleft_any (n := v) (k := k) (by omega) (by omega) x
          rw [HKI.out, ← hu] at kl3
          have kl4 : ∀ x : World, Calls Tryz.prog 43 #[.agg #[.int .u64 (((v : Nat) : Int) / 18446744073709551616), .int .u64 (((v : Nat) : Int) % 18446744073709551616)], .int .i64 (Q - e)] x fun r x' => r = .returned (.agg #[.int .u64 (((u : Nat) : Int) / 18446744073709551616), .int .u64 (((u : Nat) : Int) % 18446744073709551616)]) ∧ Below x.heap.size x x' := kl3
          have km := fun x => wminus_any (n := w) (m := u) (by omega) hWW x
          rw [hcut.1] at km
          have km2 : ∀ x : World, Calls Tryz.prog 46 #[.agg #[.int .u64 (((w : Nat) : Int) / 18446744073709551616), .int .u64 (((w : Nat) : Int) % 18446744073709551616)], .agg #[.int .u64 (((u : Nat) : Int) / 18446744073709551616), .int .u64 (((u : Nat) : Int) % 18446744073709551616)]] x fun r x' => r = .returned (.agg #[.int .u64 (((c : Nat) : Int) / 18446744073709551616), .int .u64 (((c : Nat) : Int) % 18446744073709551616)]) ∧ Below x.heap.size x x' := km
          have HCU := Lib.hid hc
          clear kl3 km hu hc hcut hWW
          have HKP := Lib.hid fun (wx wz : World) (hw : Below wx.heap.size wx wz) (h : wx.cell? ⟨W.heap.size, 0, none⟩ = some (.int .u64 (((w : Nat) : Int) / 18446744073709551616)) ∧ wx.cell? ⟨W.heap.size, 1, none⟩ = some (.int .u64 (((w : Nat) : Int) % 18446744073709551616)) ∧ wx.cell? ⟨wd.heap.size, 0, none⟩ = some (.int .u64 (((v : Nat) : Int) / 18446744073709551616)) ∧ wx.cell? ⟨wd.heap.size, 1, none⟩ = some (.int .u64 (((v : Nat) : Int) % 18446744073709551616))) => (show wz.cell? ⟨W.heap.size, 0, none⟩ = some (.int .u64 (((w : Nat) : Int) / 18446744073709551616)) ∧ wz.cell? ⟨W.heap.size, 1, none⟩ = some (.int .u64 (((w : Nat) : Int) % 18446744073709551616)) ∧ wz.cell? ⟨wd.heap.size, 0, none⟩ = some (.int .u64 (((v : Nat) : Int) / 18446744073709551616)) ∧ wz.cell? ⟨wd.heap.size, 1, none⟩ = some (.int .u64 (((v : Nat) : Int) % 18446744073709551616)) from
            ⟨(hw.cell (World.block_lt_of_cell? _ _ h.1)).trans h.1, (hw.cell (World.block_lt_of_cell? _ _ h.2.1)).trans h.2.1, (hw.cell (World.block_lt_of_cell? _ _ h.2.2.1)).trans h.2.2.1, (hw.cell (World.block_lt_of_cell? _ _ h.2.2.2)).trans h.2.2.2⟩)
          have HSy : Hid (wy.cell? ⟨W.heap.size, 0, none⟩ = some (.int .u64 (((w : Nat) : Int) / 18446744073709551616)) ∧ wy.cell? ⟨W.heap.size, 1, none⟩ = some (.int .u64 (((w : Nat) : Int) % 18446744073709551616)) ∧ wy.cell? ⟨wd.heap.size, 0, none⟩ = some (.int .u64 (((v : Nat) : Int) / 18446744073709551616)) ∧ wy.cell? ⟨wd.heap.size, 1, none⟩ = some (.int .u64 (((v : Nat) : Int) % 18446744073709551616))) := ⟨e0, e1, g0, g1⟩
          have hz0 : W.heap.size < wd.heap.size := hlt5
          have hz1 : wd.heap.size < wy.heap.size := Cells.lt HCG.out
          have HKS : Hid (∀ (wx : World) (g : Nat) (a b : Value), (wx.cell? ⟨W.heap.size, 0, none⟩ = some (.int .u64 (((w : Nat) : Int) / 18446744073709551616)) ∧ wx.cell? ⟨W.heap.size, 1, none⟩ = some (.int .u64 (((w : Nat) : Int) % 18446744073709551616)) ∧ wx.cell? ⟨wd.heap.size, 0, none⟩ = some (.int .u64 (((v : Nat) : Int) / 18446744073709551616)) ∧ wx.cell? ⟨wd.heap.size, 1, none⟩ = some (.int .u64 (((v : Nat) : Int) % 18446744073709551616))) → g ≠ W.heap.size → g ≠ wd.heap.size → (((wx.setCell ⟨g, 0, none⟩ a).setCell ⟨g, 1, none⟩ b).cell? ⟨W.heap.size, 0, none⟩ = some (.int .u64 (((w : Nat) : Int) / 18446744073709551616)) ∧ ((wx.setCell ⟨g, 0, none⟩ a).setCell ⟨g, 1, none⟩ b).cell? ⟨W.heap.size, 1, none⟩ = some (.int .u64 (((w : Nat) : Int) % 18446744073709551616)) ∧ ((wx.setCell ⟨g, 0, none⟩ a).setCell ⟨g, 1, none⟩ b).cell? ⟨wd.heap.size, 0, none⟩ = some (.int .u64 (((v : Nat) : Int) / 18446744073709551616)) ∧ ((wx.setCell ⟨g, 0, none⟩ a).setCell ⟨g, 1, none⟩ b).cell? ⟨wd.heap.size, 1, none⟩ = some (.int .u64 (((v : Nat) : Int) % 18446744073709551616)))) := fun wx g a b h h1 h2 => by
            have n1 : ∀ (j j2 : Nat), ∀ x : Value, (wx.setCell ⟨g, j2, none⟩ x).cell? ⟨W.heap.size, j, none⟩ = wx.cell? ⟨W.heap.size, j, none⟩ := fun j j2 x => cell_off wx (by simpa using h1) x
            have n2 : ∀ (j j2 : Nat), ∀ x : Value, (wx.setCell ⟨g, j2, none⟩ x).cell? ⟨wd.heap.size, j, none⟩ = wx.cell? ⟨wd.heap.size, j, none⟩ := fun j j2 x => cell_off wx (by simpa using h2) x
            obtain ⟨q1, q2, q3, q4⟩ := h
            refine ⟨?_, ?_, ?_, ?_⟩
            · exact (cell_off _ (by simpa using h1) b).trans ((n1 0 0 a).trans q1)
            · exact (cell_off _ (by simpa using h1) b).trans ((n1 1 0 a).trans q2)
            · exact (cell_off _ (by simpa using h2) b).trans ((n2 0 0 a).trans q3)
            · exact (cell_off _ (by simpa using h2) b).trans ((n2 1 0 a).trans q4)
          go_cut [12] (fun s12 wx => ∃ g12, s12 = .pointer (some ⟨g12, 0, none⟩) ∧ WAt wx wd.heap.size v ∧ WAt wx g12 c ∧ Below W.heap.size W wx)
          case first =>
            go_region_held3 (fun w' => w'.cell? ⟨W.heap.size, 0, none⟩ = some (.int .u64 (((w : Nat) : Int) / 18446744073709551616)) ∧ w'.cell? ⟨W.heap.size, 1, none⟩ = some (.int .u64 (((w : Nat) : Int) % 18446744073709551616)) ∧ w'.cell? ⟨wd.heap.size, 0, none⟩ = some (.int .u64 (((v : Nat) : Int) / 18446744073709551616)) ∧ w'.cell? ⟨wd.heap.size, 1, none⟩ = some (.int .u64 (((v : Nat) : Int) % 18446744073709551616))) ((first | exact ⟨e0, e1, g0, g1⟩ | exact HSy.out | exact HS4.out | exact HS5.out | exact HKP.out _ _ (bel_alloc (Below.refl _ _) _) HS5.out | exact HKP.out _ _ (bel_alloc (Below.refl _ _) _) HS4.out | exact HKP.out _ _ (bel_alloc (Below.refl _ _) _) HSy.out | exact HKP.out _ _ (bel_drew (bel_alloc (Below.refl _ _) _)) HSy.out | exact HKP.out _ _ (bel_drew (bel_alloc (Below.refl _ _) _)) HS4.out | exact HKP.out _ _ (bel_drew (bel_alloc (Below.refl _ _) _)) HS5.out | exact HKS.out _ _ _ _ HS5.out (by omega) (by omega) | assumption)) ((first | (go_at_call 43; refine (kl4 _).mono ?_; rintro x w4 ⟨rfl, hb4⟩; (first | (have HS4 := Lib.hid (HKP.out _ _ hb4 HSy.out); have hz4 : wy.heap.size ≤ w4.heap.size := hb4.size) | (have HS4 := Lib.hid (HKP.out _ _ hb4 (HKP.out _ _ (bel_alloc (Below.refl _ wy) _) HSy.out)); have hz4 : wy.heap.size ≤ w4.heap.size := Nat.le_trans (bel_alloc (Below.refl _ wy) _).size hb4.size) | (have HS4 := Lib.hid (HKP.out _ _ hb4 (HKP.out _ _ (bel_drew (bel_alloc (Below.refl _ wy) _)) HSy.out)); have hz4 : wy.heap.size ≤ w4.heap.size := Nat.le_trans (bel_drew (bel_alloc (Below.refl _ wy) _)).size hb4.size)); first | (have z := Cells.keep (Cells.new _ _ _) hb4; have z0 := Cells.fz z 0; have z1 := Cells.fz z 1; have y0 := Cells.cell z (j := 0) rfl; have y1 := Cells.cell z (j := 1) rfl; have HZ := Lib.hid z; clear z) | (have z := Cells.keep (Cells.drew (Cells.new wy _ _)) hb4; have z0 := Cells.fz z 0; have z1 := Cells.fz z 1; have y0 := Cells.cell z (j := 0) rfl; have y1 := Cells.cell z (j := 1) rfl; have HZ := Lib.hid z; clear z) | skip) | (go_at_call 46; refine (km2 _).mono ?_; rintro x w5 ⟨rfl, hb5⟩; (first | (have HS5 := Lib.hid (HKP.out _ _ hb5 HS4.out); have hz5 : w4.heap.size ≤ w5.heap.size := hb5.size) | (have HS5 := Lib.hid (HKP.out _ _ hb5 (HKP.out _ _ (bel_alloc (Below.refl _ w4) _) HS4.out)); have hz5 : w4.heap.size ≤ w5.heap.size := Nat.le_trans (bel_alloc (Below.refl _ w4) _).size hb5.size)); first | (have z := Cells.keep (Cells.new _ _ _) hb5; have z0 := Cells.fz z 0; have z1 := Cells.fz z 1; have y0 := Cells.cell z (j := 0) rfl; have y1 := Cells.cell z (j := 1) rfl; have HZ := Lib.hid z; clear z) | (have z := Cells.keep HZ.out hb5; have z0 := Cells.fz z 0; have z1 := Cells.fz z 1; have y0 := Cells.cell z (j := 0) rfl; have y1 := Cells.cell z (j := 1) rfl; have HZ := Lib.hid z; clear z) | skip)))
            · go_wp2_with fail
              go_meet
              exact ⟨_, rfl, Cells.alloc (Cells.keep (Cells.keep (Cells.drew HCG.out) hb4) hb5) _, Cells.new w5 42 (wc c), bel_alloc (grow_to (grow_to (bel_drew HB3'.out) hb4) hb5) _⟩
            · go_wp2_with fail
              go_meet
              exact ⟨_, rfl, Cells.far (Cells.far (Cells.keep (Cells.alloc (Cells.keep (Cells.drew HCG.out) hb4) _) hb5) (a := ⟨w4.heap.size, 0, none⟩) (by show wd.heap.size ≠ w4.heap.size; omega) _) (a := ⟨w4.heap.size, 1, none⟩) (by show wd.heap.size ≠ w4.heap.size; omega) _, Cells.set (Cells.set HZ.out 0 _) 1 _, bel_store (grow_to (bel_alloc (grow_to (bel_drew HB3'.out) hb4) _) hb5) (by omega) _ _⟩
            · go_wp2_with fail
              go_meet
              exact ⟨_, rfl, Cells.far (Cells.far (Cells.keep (Cells.keep (Cells.drew (Cells.alloc HCG.out _)) hb4) hb5) (a := ⟨wy.heap.size, 0, none⟩) (by show wd.heap.size ≠ wy.heap.size; omega) _) (a := ⟨wy.heap.size, 1, none⟩) (by show wd.heap.size ≠ wy.heap.size; omega) _, Cells.set (Cells.set HZ.out 0 _) 1 _, bel_store (grow_to (grow_to (bel_drew (bel_alloc HB3'.out _)) hb4) hb5) (by omega) _ _⟩
          case rest =>
            obtain ⟨g12, rfl, hcg, hc12, hbe⟩ := hcut
            obtain ⟨we, rfl⟩ : ∃ we : World, we = wc := ⟨wc, rfl⟩
            have HC12 := Lib.hid hc12
            have HCGe := Lib.hid hcg
            have HBe := Lib.hid hbe
            clear hc12 hcg hbe
            obtain ⟨md, hmd⟩ : ∃ md, md = 2 ^ (k - 1) := ⟨_, rfl⟩
            have hmd2 : md < 340282366920938463463374607431768211456 := by
              rw [hmd]
              exact Nat.lt_of_le_of_lt (Nat.pow_le_pow_right (by decide) (show k - 1 ≤ 126 by omega)) (by decide)
            have hcl : c < 340282366920938463463374607431768211456 := Nat.lt_of_le_of_lt (Nat.le_trans (Nat.le_of_eq HCU.out) (Nat.mod_le _ _)) HW.out
            have km3 := fun x => wleft_any (n := 1) (k := k - 1) (by omega) (by rw [Nat.one_mul, ← hmd]; exact hmd2) x
            rw [Nat.one_mul, ← hmd] at km3
            have hki1 : ((k - 1 : Nat) : Int) = Q - e - 1 := by
              have := HKI.out
              omega
            rw [hki1] at km3
            have km4 : ∀ x : World, Calls Tryz.prog 43 #[.agg #[.int .u64 0, .int .u64 1], .int .i64 (Q - e - 1)] x fun r x' => r = .returned (.agg #[.int .u64 (((md : Nat) : Int) / 18446744073709551616), .int .u64 (((md : Nat) : Int) % 18446744073709551616)]) ∧ Below x.heap.size x x' := km3
            have kl5 := fun x => wless_any (n := md) (m := c) hmd2 hcl x
            have n2 : IntKind.i64.wrap (Q - e - 1) = Q - e - 1 := by
              rw [IntKind.wrap_i64]
              omega
            have hodd : bits .and .u64 (((v : Nat) : Int) % 18446744073709551616) 1 = ((v % 2 : Nat) : Int) := by
              have h : bits .and .u64 ((v : Nat) : Int) ((1 : Nat) : Int) = ((v &&& 1 : Nat) : Int) := u64_and_nat v 1 (by omega) (by decide)
              rw [Nat.and_one_is_mod] at h
              rw [show (((v : Nat) : Int) % 18446744073709551616) = ((v : Nat) : Int) from by omega]
              exact h
            have hup : IntKind.u64.wrap ((((v : Nat) : Int) % 18446744073709551616) + 1) = ((v : Nat) : Int) + 1 := by
              rw [IntKind.wrap_u64]
              omega
            have heq := fun x => wide_eql c md x hcl hmd2
            have HMD := Lib.hid hmd
            clear km3 hki1 hmd hcl hmd2 kl4 km2 HKP HSy e0 e1 g0 g1 HKS
            by_cases c1 : md < c
            · have kless : ∀ x : World, Calls Tryz.prog 74 #[.agg #[.int .u64 (((md : Nat) : Int) / 18446744073709551616), .int .u64 (((md : Nat) : Int) % 18446744073709551616)], .agg #[.int .u64 (((c : Nat) : Int) / 18446744073709551616), .int .u64 (((c : Nat) : Int) % 18446744073709551616)]] x fun r x' => r = .returned (.bool true) ∧ Below x.heap.size x x' := fun x => by
                have h := kl5 x
                rw [decide_eq_true c1] at h
                exact h
              clear kl5
              have HMu : Hid (m = v + 1) := by
                have h := HMK.out
                unfold rndM at h
                rw [← HV.out, ← HCU.out, ← HMD.out, if_pos (.inl c1)] at h
                exact h
              clear c1
              go_wp2_with (first | (go_at_call 43; go_loud (refine (km4 _).mono ?_; rintro x w6 ⟨rfl, hb6⟩; have hx12 := Cells.keep (Cells.alloc HC12.out _) hb6; have hxG := Cells.keep (Cells.alloc HCGe.out _) hb6; have HC12b := Lib.hid hx12; have HCGb := Lib.hid hxG; have HBe6 := Lib.hid (grow_to (bel_alloc HBe.out _) hb6); have x0 := WAt.c0 hx12; have x1 := WAt.c1 hx12; have v0 := WAt.c0 hxG; have v1 := WAt.c1 hxG; have hlt6 : wd.heap.size < w6.heap.size := Cells.lt hxG; have hlt12 : g12 < w6.heap.size := Cells.lt hx12; clear hb6 hx12 hxG)) | (go_at_call 74; go_loud (refine (kless _).mono ?_; rintro x w7 ⟨rfl, hb7⟩; have hx12 := Cells.keep (Cells.alloc HC12b.out _) hb7; have hxG := Cells.keep (Cells.alloc HCGb.out _) hb7; have hx14 := Cells.keep (Cells.new w6 42 (wc md)) hb7; have HCGc := Lib.hid hxG; have HBe7 := Lib.hid (grow_to (bel_alloc HBe6.out _) hb7); have y0 := WAt.c0 hx12; have y1 := WAt.c1 hx12; have t0 := WAt.c0 hx14; have t1 := WAt.c1 hx14; have u0 := WAt.c0 hxG; have u1 := WAt.c1 hxG; have r0 := Cells.fz hxG 0; have r1 := Cells.fz hxG 1; clear hb7 hx12 hxG hx14)))
              go_meet
              exact ⟨rfl, by rw [HMu.out]; exact WAt.up HCGc.out hr1, HBe7.out.setCell (Nat.le_of_lt hlt5) _⟩
            · have kless : ∀ x : World, Calls Tryz.prog 74 #[.agg #[.int .u64 (((md : Nat) : Int) / 18446744073709551616), .int .u64 (((md : Nat) : Int) % 18446744073709551616)], .agg #[.int .u64 (((c : Nat) : Int) / 18446744073709551616), .int .u64 (((c : Nat) : Int) % 18446744073709551616)]] x fun r x' => r = .returned (.bool false) ∧ Below x.heap.size x x' := fun x => by
                have h := kl5 x
                rw [decide_eq_false c1] at h
                exact h
              clear kl5
              by_cases c2 : c = md
              · have heq2 : ∀ x, (binOp .eql 42 (.agg #[.int .u64 (((c : Nat) : Int) / 18446744073709551616), .int .u64 (((c : Nat) : Int) % 18446744073709551616)]) (.agg #[.int .u64 (((md : Nat) : Int) / 18446744073709551616), .int .u64 (((md : Nat) : Int) % 18446744073709551616)])).run Tryz.prog x = .ok (.bool true) x := fun x => by
                  have h := heq x
                  rw [decide_eq_true c2] at h
                  exact h
                clear heq
                have HC1 := Lib.hid c1
                have HC2 := Lib.hid c2
                clear c1 c2
                cases rest with
                | true =>
                  have HMu : Hid (m = v + 1) := by
                    have h := HMK.out
                    unfold rndM at h
                    rw [← HV.out, ← HCU.out, ← HMD.out, if_pos (.inr ⟨HC2.out, .inl rfl⟩)] at h
                    exact h
                  go_wp2_with (first | (go_at_call 43; go_loud (refine (km4 _).mono ?_; rintro x w6 ⟨rfl, hb6⟩; have hx12 := Cells.keep (Cells.alloc HC12.out _) hb6; have hxG := Cells.keep (Cells.alloc HCGe.out _) hb6; have HC12b := Lib.hid hx12; have HCGb := Lib.hid hxG; have HBe6 := Lib.hid (grow_to (bel_alloc HBe.out _) hb6); have x0 := WAt.c0 hx12; have x1 := WAt.c1 hx12; have v0 := WAt.c0 hxG; have v1 := WAt.c1 hxG; have hlt6 : wd.heap.size < w6.heap.size := Cells.lt hxG; have hlt12 : g12 < w6.heap.size := Cells.lt hx12; clear hb6 hx12 hxG)) | (go_at_call 74; go_loud (refine (kless _).mono ?_; rintro x w7 ⟨rfl, hb7⟩; have hx12 := Cells.keep (Cells.alloc HC12b.out _) hb7; have hxG := Cells.keep (Cells.alloc HCGb.out _) hb7; have hx14 := Cells.keep (Cells.new w6 42 (wc md)) hb7; have HCGc := Lib.hid hxG; have HBe7 := Lib.hid (grow_to (bel_alloc HBe6.out _) hb7); have y0 := WAt.c0 hx12; have y1 := WAt.c1 hx12; have t0 := WAt.c0 hx14; have t1 := WAt.c1 hx14; have u0 := WAt.c0 hxG; have u1 := WAt.c1 hxG; have r0 := Cells.fz hxG 0; have r1 := Cells.fz hxG 1; clear hb7 hx12 hxG hx14)))
                  go_meet
                  exact ⟨rfl, by rw [HMu.out]; exact WAt.up HCGc.out hr1, HBe7.out.setCell (Nat.le_of_lt hlt5) _⟩
                | false =>
                  by_cases c3 : v % 2 = 1
                  · have HMu : Hid (m = v + 1) := by
                      have h := HMK.out
                      unfold rndM at h
                      rw [← HV.out, ← HCU.out, ← HMD.out, if_pos (.inr ⟨HC2.out, .inr c3⟩)] at h
                      exact h
                    rw [c3] at hodd
                    clear c3
                    go_wp2_with (first | (go_at_call 43; go_loud (refine (km4 _).mono ?_; rintro x w6 ⟨rfl, hb6⟩; have hx12 := Cells.keep (Cells.alloc HC12.out _) hb6; have hxG := Cells.keep (Cells.alloc HCGe.out _) hb6; have HC12b := Lib.hid hx12; have HCGb := Lib.hid hxG; have HBe6 := Lib.hid (grow_to (bel_alloc HBe.out _) hb6); have x0 := WAt.c0 hx12; have x1 := WAt.c1 hx12; have v0 := WAt.c0 hxG; have v1 := WAt.c1 hxG; have hlt6 : wd.heap.size < w6.heap.size := Cells.lt hxG; have hlt12 : g12 < w6.heap.size := Cells.lt hx12; clear hb6 hx12 hxG)) | (go_at_call 74; go_loud (refine (kless _).mono ?_; rintro x w7 ⟨rfl, hb7⟩; have hx12 := Cells.keep (Cells.alloc HC12b.out _) hb7; have hxG := Cells.keep (Cells.alloc HCGb.out _) hb7; have hx14 := Cells.keep (Cells.new w6 42 (wc md)) hb7; have HCGc := Lib.hid hxG; have HBe7 := Lib.hid (grow_to (bel_alloc HBe6.out _) hb7); have y0 := WAt.c0 hx12; have y1 := WAt.c1 hx12; have t0 := WAt.c0 hx14; have t1 := WAt.c1 hx14; have u0 := WAt.c0 hxG; have u1 := WAt.c1 hxG; have r0 := Cells.fz hxG 0; have r1 := Cells.fz hxG 1; clear hb7 hx12 hxG hx14)))
                    go_meet
                    exact ⟨rfl, by rw [HMu.out]; exact WAt.up HCGc.out hr1, HBe7.out.setCell (Nat.le_of_lt hlt5) _⟩
                  · have HMu : Hid (m = v) := by
                      have h := HMK.out
                      unfold rndM at h
                      rw [← HV.out, ← HCU.out, ← HMD.out, if_neg (fun h => h.elim HC1.out fun h => h.2.elim (fun h => nomatch h) c3), Nat.add_zero] at h
                      exact h
                    rw [show v % 2 = 0 by omega] at hodd
                    clear c3
                    go_wp2_with (first | (go_at_call 43; go_loud (refine (km4 _).mono ?_; rintro x w6 ⟨rfl, hb6⟩; have hx12 := Cells.keep (Cells.alloc HC12.out _) hb6; have hxG := Cells.keep (Cells.alloc HCGe.out _) hb6; have HC12b := Lib.hid hx12; have HCGb := Lib.hid hxG; have HBe6 := Lib.hid (grow_to (bel_alloc HBe.out _) hb6); have x0 := WAt.c0 hx12; have x1 := WAt.c1 hx12; have v0 := WAt.c0 hxG; have v1 := WAt.c1 hxG; have hlt6 : wd.heap.size < w6.heap.size := Cells.lt hxG; have hlt12 : g12 < w6.heap.size := Cells.lt hx12; clear hb6 hx12 hxG)) | (go_at_call 74; go_loud (refine (kless _).mono ?_; rintro x w7 ⟨rfl, hb7⟩; have hx12 := Cells.keep (Cells.alloc HC12b.out _) hb7; have hxG := Cells.keep (Cells.alloc HCGb.out _) hb7; have hx14 := Cells.keep (Cells.new w6 42 (wc md)) hb7; have HCGc := Lib.hid hxG; have HBe7 := Lib.hid (grow_to (bel_alloc HBe6.out _) hb7); have y0 := WAt.c0 hx12; have y1 := WAt.c1 hx12; have t0 := WAt.c0 hx14; have t1 := WAt.c1 hx14; have u0 := WAt.c0 hxG; have u1 := WAt.c1 hxG; have r0 := Cells.fz hxG 0; have r1 := Cells.fz hxG 1; clear hb7 hx12 hxG hx14)))
                    go_meet
                    exact ⟨rfl, by rw [HMu.out]; exact HCGc.out, HBe7.out⟩
              · have heq2 : ∀ x, (binOp .eql 42 (.agg #[.int .u64 (((c : Nat) : Int) / 18446744073709551616), .int .u64 (((c : Nat) : Int) % 18446744073709551616)]) (.agg #[.int .u64 (((md : Nat) : Int) / 18446744073709551616), .int .u64 (((md : Nat) : Int) % 18446744073709551616)])).run Tryz.prog x = .ok (.bool false) x := fun x => by
                  have h := heq x
                  rw [decide_eq_false c2] at h
                  exact h
                clear heq
                have HMu : Hid (m = v) := by
                  have h := HMK.out
                  unfold rndM at h
                  rw [← HV.out, ← HCU.out, ← HMD.out, if_neg (fun h => h.elim c1 fun h => c2 h.1), Nat.add_zero] at h
                  exact h
                clear c1 c2
                go_wp2_with (first | (go_at_call 43; go_loud (refine (km4 _).mono ?_; rintro x w6 ⟨rfl, hb6⟩; have hx12 := Cells.keep (Cells.alloc HC12.out _) hb6; have hxG := Cells.keep (Cells.alloc HCGe.out _) hb6; have HC12b := Lib.hid hx12; have HCGb := Lib.hid hxG; have HBe6 := Lib.hid (grow_to (bel_alloc HBe.out _) hb6); have x0 := WAt.c0 hx12; have x1 := WAt.c1 hx12; have v0 := WAt.c0 hxG; have v1 := WAt.c1 hxG; have hlt6 : wd.heap.size < w6.heap.size := Cells.lt hxG; have hlt12 : g12 < w6.heap.size := Cells.lt hx12; clear hb6 hx12 hxG)) | (go_at_call 74; go_loud (refine (kless _).mono ?_; rintro x w7 ⟨rfl, hb7⟩; have hx12 := Cells.keep (Cells.alloc HC12b.out _) hb7; have hxG := Cells.keep (Cells.alloc HCGb.out _) hb7; have hx14 := Cells.keep (Cells.new w6 42 (wc md)) hb7; have HCGc := Lib.hid hxG; have HBe7 := Lib.hid (grow_to (bel_alloc HBe6.out _) hb7); have y0 := WAt.c0 hx12; have y1 := WAt.c1 hx12; have t0 := WAt.c0 hx14; have t1 := WAt.c1 hx14; have u0 := WAt.c0 hxG; have u1 := WAt.c1 hxG; have r0 := Cells.fz hxG 0; have r1 := Cells.fz hxG 1; clear hb7 hx12 hxG hx14)))
                go_meet
                exact ⟨rfl, by rw [HMu.out]; exact HCGc.out, HBe7.out⟩
      case rest =>
        obtain ⟨rfl, hG, hB⟩ := hcut
        have c1 := WAt.c1 hG
        rw [show (((m : Nat) : Int) % 18446744073709551616) = ((m : Nat) : Int) from by omega] at c1
        have HBf := Lib.hid hB
        clear hG hB HB H5 HM HLeft HRight
        have o1 : bits .or .u64 ((sgn s : Nat) : Int) 9218868437227405312 = ((sgn s + 9218868437227405312 : Nat) : Int) := or_sgn s (r := 9218868437227405312) (by decide)
        have b1 : IntKind.i64.wrap (Q + 1074) = Q + 1074 := by
          rw [IntKind.wrap_i64]
          omega
        by_cases hq : 971 < Q
        · have HV : Hid (rnd s w e rest = sgn s + 9218868437227405312) := by
            have h := HRR.out
            rw [if_neg hA, if_pos hq] at h
            have h2 := HR.out
            rw [h] at h2
            exact h2
          go_wp2
          go_ret
          exact ⟨by rw [HV.out]; rfl, HBf.out⟩
        · have b2 : IntKind.u64.wrap (Q + 1074) = Q + 1074 := by
            rw [IntKind.wrap_u64]
            omega
          have b3 : IntKind.u64.wrap ((Q + 1074) * 4503599627370496) = (Q + 1074) * 4503599627370496 := by
            rw [IntKind.wrap_u64]
            omega
          obtain ⟨bv, hbv⟩ : ∃ bv, bv = (Q + 1074).toNat * 4503599627370496 + m := ⟨_, rfl⟩
          have b4 : IntKind.u64.wrap ((Q + 1074) * 4503599627370496 + ((m : Nat) : Int)) = ((bv : Nat) : Int) := by
            rw [IntKind.wrap_u64]
            omega
          by_cases hbi : infB ≤ bv
          · have HV : Hid (rnd s w e rest = sgn s + 9218868437227405312) := by
              have h := HRR.out
              rw [if_neg hA, if_neg hq, ← hbv, if_pos hbi] at h
              have h2 := HR.out
              rw [h] at h2
              exact h2
            have hbi2 : (9218868437227405312 : Int) ≤ ((bv : Nat) : Int) := by
              unfold infB at hbi
              omega
            clear hbi hbv
            go_wp2
            go_ret
            exact ⟨by rw [HV.out]; rfl, HBf.out⟩
          · have HV : Hid (rnd s w e rest = sgn s + bv) := by
              have h := HRR.out
              rw [if_neg hA, if_neg hq, ← hbv, if_neg hbi] at h
              have h2 := HR.out
              rw [h] at h2
              exact h2
            have hbi2 : ¬ (9218868437227405312 : Int) ≤ ((bv : Nat) : Int) := by
              unfold infB at hbi
              omega
            have o2 := or_sgn s (r := bv) (by unfold infB at hbi; omega)
            clear hbi hbv o1
            go_wp2
            go_ret
            exact ⟨by rw [HV.out]; rfl, HBf.out⟩

end Go.Proofs.YtjlnbfpjlladoaaGreatDoor
