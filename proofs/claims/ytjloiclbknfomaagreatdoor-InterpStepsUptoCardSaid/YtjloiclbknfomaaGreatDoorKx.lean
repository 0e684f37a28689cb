/- (*interp.Machine).Run: so many at most (contract). -/
import Derived.Test.YtjloiclbknfomaaGreatDoorKw
set_option maxRecDepth 100000
namespace Go.Proofs.YtjloiclbknfomaaGreatDoor
open Go.RowKit Ieee

def actCells (a : Int × List UInt8) : List Value := [.int .i64 a.1, .string ⟨a.2.toArray⟩]
def ActsIn (w : World) (base : Nat) (v : Value) (l : List (Int × List UInt8)) : Prop := w.ownsRow base 56 2 v l.length (l.flatMap actCells)
theorem info_act : ∃ i, Tryz.prog.info? 56 = some i ∧ i.zero = some (.agg #[.int .i64 0, .string ⟨#[]⟩]) ∧ i.size = 2 ∧ i.bytes = 24 := info_split (by kernel_rfl)
theorem acts_not {w : World} {g base : Nat} {cs nv pv v : Value} {m : Mach} {l : List (Int × List UInt8)} (hM : Mw w g cs nv pv m) (h : ActsIn w base v l) : ∀ k, v.ownBlock = some k → k ∉ mOwn g nv pv := by
  intro k hk
  obtain ⟨cur, hcur⟩ := own_block_type h hk
  exact mOwn_not hM hcur (by decide) (by decide) (by decide)
theorem Mw.acts {w w' : World} {g base : Nat} {cs nv pv v : Value} {m : Mach} {l : List (Int × List UInt8)} (hM : Mw w g cs nv pv m) (h : ActsIn w base v l) (hg : w.grownBy w' v.ownBlock) : Mw w' g cs nv pv m := by
  have key : ∀ k, v.ownBlock = some k → ∃ cur, Cells w k 56 cur := fun k hk => own_block_type h hk
  refine hM.turns (S := match v.ownBlock with | some k => [k] | none => []) ⟨hg.os, hg.tape, hg.output, hg.size, fun k hk hn => hg.block k hk fun e => hn (by rw [← e]; simp)⟩ ?_ ?_ ?_ ?_
  · cases hv : v.ownBlock with
    | none => simp
    | some k =>
      obtain ⟨cur, hc⟩ := key k hv
      have := block_ne hM.cells hc (by decide)
      simpa using this
  all_goals
    intro j hj
    cases hv : v.ownBlock with
    | none => simp
    | some k =>
      obtain ⟨cur, hc⟩ := key k hv
      have := hM.other hc (by decide) (by decide) (by decide) (by decide) j (by simp [hj])
      simpa using this
/-- .. where a machine's blocks are new: what was there is kept, and the tables with it -/
theorem acts_step {n : Nat} {w : World} {base : Nat} {v : Value} {l : List (Int × List UInt8)} {a : Int × List UInt8} (h : w.ownsRow base 56 2 v (l.length + 1) (l.flatMap actCells ++ [.int .i64 a.1, .string ⟨a.2.toArray⟩])) : ActsIn w base v (l ++ [a]) := by
  unfold ActsIn
  simpa [actCells] using h

theorem anew_trans {w w1 : World} {a b c : Value} (h : Anew w a b) (k : Anew w1 b c) (hs : w.heap.size ≤ w1.heap.size) : Anew w a c := by
  rcases k with k | ⟨x, hx, hl⟩
  · rcases h with h | ⟨y, hy, hm⟩
    · exact .inl (k.trans h)
    · exact .inr ⟨y, k.trans hy, hm⟩
  · exact .inr ⟨x, hx, Nat.le_trans hs hl⟩
theorem turns_grown {w wx w4 : World} {S : List Nat} {o : Option Nat} (h : Turns S w wx) (hg : wx.grownBy w4 o) (ho : ∀ k, o = some k → w.heap.size ≤ k) : Turns S w w4 :=
  ⟨hg.os.trans h.os, hg.tape.trans h.tape, hg.output.trans h.output, Nat.le_trans h.size hg.size, fun i hi hn => (hg.block i (Nat.lt_of_lt_of_le hi h.size) (fun e => by have := ho i e.symm; omega)).trans (h.block i hi hn)⟩
theorem acts_len : ∀ (k : Nat) (m : Mach), (runM k m).2.length ≤ k
  | 0, m => by simp [runM]
  | k + 1, m => by
    by_cases h : m.over = true
    · rw [runM_over h]; simp
    · rw [runM_succ (by simpa using h)]
      have := acts_len k (stepM m).1
      unfold toldOf
      simp only [List.length_append]
      split <;> simp <;> omega
theorem acts_few {m : Mach} {k : Nat} (h : k ≤ 1024) : (runM k m).2.length < 1073741824 := by
  have := acts_len k m
  omega

set_option maxRecDepth 100000 in
set_option maxHeartbeats 4000000 in
theorem run_any {w : World} {g : Nat} {cs nv pv : Value} {m : Mach} (hM : Mw w g cs nv pv m) (hF : m.Fit) (hG : m.Goes) (hT : ∀ wz, Turns (mOwn g nv pv) w wz → TabsAt wz) (most : Int) :
    Calls Tryz.prog 16 #[.pointer (some ⟨g, 0, none⟩), .int .i64 most] w fun e w' => ∃ lv nv' pv', e = .returned lv ∧ ActsIn w' w.heap.size lv (runM most.toNat m).2 ∧ Anew w nv nv' ∧ Anew w pv pv' ∧ Mw w' g cs nv' pv' (runM most.toNat m).1 ∧ Turns (mOwn g nv pv) w w' := by
  obtain ⟨i1, hq1, hz1, hsz1, hby1⟩ := info_act
  have HM0 := Lib.hid hM
  have HF := Lib.hid hF
  have HG := Lib.hid hG
  have HT := Lib.hid hT
  clear hM hF hG hT
  go_enter Tryz.func16, Tryz.ntmps16
  go_wp2
  go_loopw [5, 6] (fun lv x wr => ∃ (k : Nat) (nvk pvk : Value), x = .int .i64 (k : Int) ∧ (k : Int) ≤ max most 0 ∧ (∀ j, j < k → (runM j m).1.over = false) ∧ ActsIn wr w.heap.size lv (runM k m).2 ∧ Anew w nv nvk ∧ Anew w pv pvk ∧ Mw wr g cs nvk pvk (runM k m).1 ∧ Turns (mOwn g nv pv) w wr) (fun _ x _ => most.toNat - (intOf x).toNat)
  case atStart => exact ⟨0, nv, pv, rfl, by omega, fun j hj => by omega, World.ownsRow_nil _ _ _ _, Anew.refl _ _, Anew.refl _ _, HM0.out, Turns.refl _ _⟩
  case round =>
    obtain ⟨k, nvk, pvk, rfl, hk, hall, hA, hn, hp, hMk, hTk⟩ := hrel
    have hdone := runM_done (P := Tryz.prog) w k HF.out HG.out hall
    obtain ⟨hFk, hGk, hcode, hfuel⟩ := runM_fit (P := Tryz.prog) w k HF.out HG.out
    have hkb : k ≤ 1024 := by have h1 := hFk.done; have h2 := HF.out.fuel.2; omega
    obtain ⟨Al, capl, rfl⟩ := own_slice hA
    have HMk := Lib.hid hMk
    have HTk := Lib.hid hTk
    have HN := Lib.hid hn
    have HP := Lib.hid hp
    have HA := Lib.hid hA
    have HALL := Lib.hid hall
    have HFk := Lib.hid hFk
    have HGk := Lib.hid hGk
    have HK := Lib.hid hk
    have c16 : wr.cell? ⟨g, 16, none⟩ = some (.bool (runM k m).1.over) := hMk.cells.cell (j := 16) rfl
    have hlt := hMk.lt
    clear hA hn hp hMk hTk hall hdone hFk hGk hcode hfuel hk
    by_cases h1 : (k : Int) < most
    · cases ho : (runM k m).1.over with
      | true =>
        rw [ho] at c16
        have hstop : runM most.toNat m = runM k m := runM_stop ho (by omega)
        have HST := Lib.hid hstop
        clear hstop ho
        go_wp2
        go_ret
        exact ⟨_, nvk, pvk, rfl, by rw [HST.out]; exact HA.out, HN.out, HP.out, by rw [HST.out]; exact HMk.out, HTk.out⟩
      | false =>
        rw [ho] at c16
        have hsn := runM_snoc ho
        have ks := step_any HMk.out HFk.out HGk.out ho (fun wz hz => HT.out wz (HTk.out.trans' hz (mOwn_anew HN.out HP.out)))
        have HSN := Lib.hid hsn
        have HO := Lib.hid ho
        have HALL' : Hid (∀ j, j < k + 1 → (runM j m).1.over = false) := Lib.hid fun j hj => by
          rcases Nat.lt_or_ge j k with h | h
          · exact HALL.out j h
          · obtain rfl : j = k := by omega
            exact HO.out
        have hkw : wrap64 ((k : Int) + 1) = (k : Int) + 1 := by unfold wrap64; omega
        obtain ⟨st, hst⟩ : ∃ st, stepM (runM k m).1 = st := ⟨_, rfl⟩
        rw [hst] at ks
        have HSTE := Lib.hid hst
        have KS := Lib.hid ks
        clear hsn ho ks hst
        have hll : (runM k m).2.length < 1073741824 := acts_few (m := m) (k := k) hkb
        by_cases h0 : st.2.1 = 0
        · have t0 : (st.2.1 == 0) = true := by rw [beq_iff_eq]; exact h0
          have htold : runM (k + 1) m = (st.1, (runM k m).2) := by
            rw [HSN.out, HSTE.out]
            unfold toldOf
            rw [if_pos h0]
            simp
          have HTO := Lib.hid htold
          clear h0 htold
          go_wp2_with (go_at_call 20; with_reducible (refine KS.out.mono ?_); rintro _ w3 ⟨rfl, nv3, pv3, hn3, hp3, hM3, hT3⟩; have HM3 := Lib.hid hM3; have HT3 := Lib.hid hT3; have HN3 := Lib.hid hn3; have HP3 := Lib.hid hp3; clear hM3 hT3 hn3 hp3)
          go_roundw
          case rel => exact ⟨k + 1, nv3, pv3, by go_num, by omega, HALL'.out, by rw [HTO.out]; exact own_kept (row_turns HA.out HT3.out (acts_not HMk.out HA.out)) ((Below.refl _ _).alloc (Nat.le_refl _) _), anew_trans HN.out HN3.out HTk.out.size, anew_trans HP.out HP3.out HTk.out.size, by rw [HTO.out]; exact HM3.out.alloc _, (HTk.out.trans' HT3.out (mOwn_anew HN.out HP.out)).alloc _⟩
          case measure => simp [intOf]; omega
        · have t0 : (st.2.1 == 0) = false := by rw [beq_eq_false_iff_ne]; exact h0
          have htold : runM (k + 1) m = (st.1, (runM k m).2 ++ [st.2]) := by
            rw [HSN.out, HSTE.out]
            unfold toldOf
            rw [if_neg h0]
          have HTO := Lib.hid htold
          clear h0 htold
          go_wp2_with (first | (go_at_call 20; go_loud (with_reducible (refine KS.out.mono ?_)); go_loud (rintro _ w3 ⟨rfl, nv3, pv3, hn3, hp3, hM3, hT3⟩); have HM3 := Lib.hid hM3; have HT3 := Lib.hid hT3; have HN3 := Lib.hid hn3; have HP3 := Lib.hid hp3; go_loud (have HA3 := Lib.hid (row_turns HA.out hT3 (acts_not HMk.out HA.out))); clear hM3 hT3 hn3 hp3) | (at_builtin; refine wpList_append_elem' rfl _ _ _ rfl w.heap.size 56 i1 _ 2 24 Tryz.underlying53 hq1 hz1 hsz1 hby1 rfl (by decide) (.slice Al (runM k m).2.length capl) (runM k m).2.length ((runM k m).2.flatMap actCells) rfl (own_kept HA3.out ((Below.refl _ _).alloc (Nat.le_refl _) _)) #[.int .i64 st.2.1, .string ⟨st.2.2.toArray⟩] rfl (by simp [Value.oneCell']) _ rfl (by simp) hll (by decide) (by have h1 := HTk.out.size; have h2 := HT3.out.size; simp; omega) ?_; intro v' W4 ho4 hgr4 hat4; have HO4 := Lib.hid (acts_step (n := 0) (a := st.2) ho4); have HGR4 := Lib.hid hgr4; clear ho4 hgr4 hat4))
          have HR3 : ActsIn (w3.alloc (.cells #[.int .i64 st.2.1, .string ⟨st.2.2.toArray⟩] 56)) w.heap.size (.slice Al (runM k m).2.length capl) (runM k m).2 := own_kept HA3.out ((Below.refl _ _).alloc (Nat.le_refl _) _)
          have HT4 := turns_grown ((HTk.out.trans' HT3.out (mOwn_anew HN.out HP.out)).alloc (.cells #[.int .i64 st.2.1, .string ⟨st.2.2.toArray⟩] 56)) HGR4.out (fun j hj => (HA.out.lt j hj).1)
          refine ⟨⟨k + 1, nv3, pv3, by go_num, by omega, HALL'.out, by rw [HTO.out]; exact HO4.out, anew_trans HN.out HN3.out HTk.out.size, anew_trans HP.out HP3.out HTk.out.size, by rw [HTO.out]; exact (HM3.out.alloc _).acts HR3 HGR4.out, HT4⟩, by simp [intOf]; omega⟩
    · have hge : ¬ (k : Int) < most := h1
      have hstop : runM most.toNat m = runM k m := by have := HK.out; rw [show most.toNat = k by omega]
      have HST := Lib.hid hstop
      clear hstop
      go_wp2
      go_ret
      first
        | exact ⟨_, nvk, pvk, rfl, by rw [HST.out]; exact HA.out, HN.out, HP.out, by rw [HST.out]; exact HMk.out, HTk.out⟩
        | exact ⟨_, rfl, by rw [HST.out]; exact HA.out, nvk, HN.out, pvk, HP.out, by rw [HST.out]; exact HMk.out, HTk.out⟩
end Go.Proofs.YtjloiclbknfomaaGreatDoor
