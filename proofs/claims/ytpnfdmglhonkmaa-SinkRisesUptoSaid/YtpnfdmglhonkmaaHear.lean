/- (*sink.Sink).Hear. -/
import Derived.Test.YtpnfdmglhonkmaaSnkPut
import Derived.Test.YtpnfdmglhonkmaaEncode
import Derived.Test.YtpnfdmglhonkmaaDecode
import Derived.Test.YtpnfdmglhonkmaaWBack
set_option maxRecDepth 100000
namespace Go.Proofs.Ytpnfdmglhonkmaa
open Go.RowKit Go.Maps

def Snk.heard (s : Snk) (b : ByteArray) : Snk := if (decode b).2 = 0 ∧ (decode b).1.kind = 6 then s.put (decode b).1.job (decode b).1.badge (decode b).1.idx (decode b).1.text else s
def Snk.answer (s : Snk) (m : Mg) : Mg :=
  if s.err m.job m.badge m.idx m.text = 161 then { Mg.none 16 with job := m.job, badge := m.badge } else { Mg.none 15 with job := m.job, badge := m.badge, cnt := ((s.put m.job m.badge m.idx m.text).count m.job m.badge : Int) }
def Snk.reply (s : Snk) (b : ByteArray) : Option Mg := if (decode b).2 = 0 ∧ (decode b).1.kind = 6 then Option.some (s.answer (decode b).1) else Option.none
def Mg.out (m : Mg) : ByteArray := if m.check = 0 then Go.Proofs.Ytpnfdmglhonkmaa.str m.bytes else ⟨#[]⟩

def Heard (w' : World) (base : Nat) (nd lf : Int) : Option Mg → Value → Prop
  | none, v => v = .slice none 0 0
  | some r, v => ∃ k, v = .slice (some ⟨k, 0, none⟩) 1 1 ∧ base ≤ k ∧ Cells w' k 59 #[.int .i64 0, .int .i64 1, .int .i64 0, .int .i64 nd, .int .i64 lf, .string r.out]

def HearPost (g bm : Nat) (nv : Value) (s : Snk) (nd lf : Int) (b : ByteArray) (w : World) (e : Ending) (w' : World) : Prop :=
  ∃ v nv', e = .returned v ∧ SnkAt w' g bm nv' (s.heard b) ∧ (nv'.ownBlock = nv.ownBlock ∨ ∃ k, nv'.ownBlock = some k ∧ w.heap.size ≤ k) ∧ Turns (ownBlocks g bm nv) w w' ∧ Heard w' w.heap.size nd lf (s.reply b) v

theorem own_lt {w : World} {g bm : Nat} {nv : Value} {s : Snk} (h : SnkAt w g bm nv s) : ∀ x ∈ ownBlocks g bm nv, x < w.heap.size := by
  intro x hx
  simp only [ownBlocks, List.mem_cons] at hx
  rcases hx with rfl | rfl | hx
  · exact h.cells.lt
  · obtain ⟨f, hm, _⟩ := h.map
    exact hm.lt
  · cases hk : nv.ownBlock with
    | none => rw [hk] at hx; simp at hx
    | some k =>
      rw [hk] at hx
      simp at hx
      subst hx
      exact (h.news.lt _ hk).2

theorem i64_wf {x : Int} (h : -9223372036854775808 ≤ x ∧ x ≤ 9223372036854775807) : (Lit.int .i64 x).wf = true := by
  have h1 : IntKind.i64.min = -9223372036854775808 := rfl
  have h2 : IntKind.i64.max = 9223372036854775807 := rfl
  simp [Lit.wf, h1, h2, h.1, h.2]

theorem hear_keep {w W2 w3 : World} {g bm : Nat} {nv : Value} {s : Snk} {k : Nat} {t : TypeId} {c : Array Value} (h : SnkAt w g bm nv s) (hT : Turns (ownBlocks g bm nv) W2 w3) (hc : Cells W2 k t c) (hk : w.heap.size ≤ k) : Cells w3 k t c :=
  hc.turns hT fun hm => by
    have := own_lt h k hm
    omega

theorem hear_end {w w3 w6 : World} {g bm k : Nat} {nv nv' : Value} {s' : Snk} {nd lf : Int} {r : Mg} {cs : Array Value} (hB : w.heap.size ≤ w3.heap.size) (hs : SnkAt w3 g bm nv' s') (hloc : nv'.ownBlock = nv.ownBlock ∨ ∃ k, nv'.ownBlock = some k ∧ w.heap.size ≤ k) (hT : Turns (ownBlocks g bm nv) w w3) (h36 : w3.grownBy w6 (some k)) (hk : w.heap.size ≤ k) (hc : Cells w3 k 61 cs) :
    ∃ nv'', SnkAt (w6.alloc (.cells #[.int .i64 0, .int .i64 1, .int .i64 0, .int .i64 nd, .int .i64 lf, .string r.out] 59)) g bm nv'' s' ∧ (nv''.ownBlock = nv.ownBlock ∨ ∃ k, nv''.ownBlock = some k ∧ w.heap.size ≤ k) ∧ Turns (ownBlocks g bm nv) w (w6.alloc (.cells #[.int .i64 0, .int .i64 1, .int .i64 0, .int .i64 nd, .int .i64 lf, .string r.out] 59)) ∧
      Heard (w6.alloc (.cells #[.int .i64 0, .int .i64 1, .int .i64 0, .int .i64 nd, .int .i64 lf, .string r.out] 59)) w.heap.size nd lf (some r) (.slice (some ⟨w6.heap.size, 0, none⟩) 1 1) := by
  have ht : Turns [k] w3 (w6.alloc (.cells #[.int .i64 0, .int .i64 1, .int .i64 0, .int .i64 nd, .int .i64 lf, .string r.out] 59)) := (Turns.of_only h36).alloc _
  have hkg := block_ne hc hs.cells (by decide)
  have hkb : k ≠ bm := by
    obtain ⟨f, hm, _⟩ := hs.map
    obtain ⟨es, n, hm⟩ := hm.isMap
    exact block_ne_map hc hm
  refine ⟨nv', hs.turns ht (by simp; exact fun e => hkg e.symm) (by simp; exact fun e => hkb e.symm) ?_ ?_, hloc, ⟨ht.os.trans hT.os, ht.tape.trans hT.tape, ht.output.trans hT.output, Nat.le_trans hT.size ht.size, fun i hi hn => ?_⟩, ⟨_, rfl, Nat.le_trans hB h36.size, Cells.new _ _ _⟩⟩
  · intro j hj
    simp
    rintro rfl
    obtain ⟨cur, hcur⟩ := own_block_type hs.news hj
    exact block_ne hc hcur (by decide) rfl
  · intro x hx c fr he
    simp at hx
    subst hx
    unfold Cells at hc
    rw [hc] at he
    injection he with he
    injection he with _ ht
    exact absurd ht (by decide)
  · exact (ht.block i (Nat.lt_of_lt_of_le hi hB) (by simp; omega)).trans (hT.block i hi hn)

theorem hear_loc {nv nv' : Value} {a b : Nat} (h : nv'.ownBlock = nv.ownBlock ∨ ∃ k, nv'.ownBlock = some k ∧ b ≤ k) (hab : a ≤ b) : nv'.ownBlock = nv.ownBlock ∨ ∃ k, nv'.ownBlock = some k ∧ a ≤ k := by
  rcases h with h | ⟨k, h1, h2⟩
  · exact .inl h
  · exact .inr ⟨k, h1, Nat.le_trans hab h2⟩

theorem hear_turns {w W2 w3 : World} {g bm : Nat} {nv : Value} {s : Snk} (h : SnkAt w g bm nv s) (hb : Below w.heap.size w W2) (hT : Turns (ownBlocks g bm nv) W2 w3) : Turns (ownBlocks g bm nv) w w3 :=
  (Turns.of_below hb).trans hT

theorem ans_fit {m : Mg} (h : m.Fit) (k c : Int) (hk : 0 ≤ k ∧ k ≤ 16) (hc : 0 ≤ c ∧ c ≤ 17) : ({ Mg.none k with job := m.job, badge := m.badge, cnt := c } : Mg).Fit := by
  refine ⟨?_, ?_, ?_, h.job, h.badge, ?_, ?_, ?_, ?_, ?_, ?_⟩ <;> simp only [Mg.none] <;> first | omega | decide

set_option maxHeartbeats 4000000 in
theorem hear_any {g bm : Nat} {nv : Value} {s : Snk} (w : World) (h : SnkAt w g bm nv s) (nd lf : Int) (b : ByteArray) (hb : b.size < 1073741824) (hnw : s.news.length < 1073741824) :
    Calls Try.prog 8 #[.pointer (some ⟨g, 0, none⟩), .agg #[.int .i64 nd, .int .i64 lf], .string b] w (HearPost g bm nv s nd lf b w) := by
  have hd := fun wx => Decode_any b wx hb
  have HH := Lib.hid h
  have HN := Lib.hid hnw
  unfold HearPost
  clear h hnw
  rcases hdc : decode b with ⟨m, c⟩
  have hheard : s.heard b = if c = 0 ∧ m.kind = 6 then s.put m.job m.badge m.idx m.text else s := by unfold Snk.heard; rw [hdc]
  have hreply : s.reply b = if c = 0 ∧ m.kind = 6 then some (s.answer m) else none := by unfold Snk.reply; rw [hdc]
  rw [hdc] at hd
  simp only at hd
  by_cases hc : c = 0
  · subst hc
    obtain ⟨hfit, hck, _, _⟩ := decode_ok hb hdc
    by_cases hk : m.kind = 6
    · rw [if_pos ⟨rfl, hk⟩] at hheard hreply
      rw [hheard, hreply]
      clear hheard hreply hdc hck
      have t1 : (m.kind != 6) = false := by rw [bne_eq_false_iff_eq]; exact hk
      have HD := Lib.hid hd
      have HF := Lib.hid hfit
      clear hd hk
      go_enter Try.func8, Try.ntmps8
      go_wp2_with fail
      refine (HD.out _).mono ?_
      rintro x w1 ⟨rfl, hb1⟩
      have hB1 : Below w.heap.size w w1 := ((Below.refl w.heap.size w).alloc (Nat.le_refl _) _).trans (hb1.mono (by simp))
      have hf1 : Cells w1 w.heap.size 31 #[.int .i64 nd, .int .i64 lf] := Cells.keep (Cells.new w _ _) hb1
      have HB1 := Lib.hid hB1
      have HF1 := Lib.hid hf1
      clear hb1 hB1 hf1
      go_wp2_with fail
      have hB2 : Below w.heap.size w ((w1.alloc (.cells m.cells 61)).alloc (.cells ({ Mg.none 15 with job := m.job, badge := m.badge } : Mg).cells 61)) := (HB1.out.alloc HB1.out.size _).alloc (Nat.le_trans HB1.out.size (by simp)) _
      have HB2 := Lib.hid hB2
      have HM := Lib.hid (show Ms ((w1.alloc (.cells m.cells 61)).alloc (.cells ({ Mg.none 15 with job := m.job, badge := m.badge } : Mg).cells 61)) w1.heap.size m from Cells.alloc (Cells.new w1 _ _) _)
      have HR := Lib.hid (show Ms ((w1.alloc (.cells m.cells 61)).alloc (.cells ({ Mg.none 15 with job := m.job, badge := m.badge } : Mg).cells 61)) (w1.heap.size + 1) { Mg.none 15 with job := m.job, badge := m.badge } from Cells.newAt _ _ _ _ (by simp))
      have HF2 := Lib.hid (show Cells ((w1.alloc (.cells m.cells 61)).alloc (.cells ({ Mg.none 15 with job := m.job, badge := m.badge } : Mg).cells 61)) w.heap.size 31 #[.int .i64 nd, .int .i64 lf] from (HF1.out.alloc _).alloc _)
      have HSZ := Lib.hid (show w.heap.size ≤ w1.heap.size from HB1.out.size)
      clear hB2
      refine (snkPut_any _ (HH.out.below HB2.out) m.job m.badge m.idx m.text (i64_wf HF.out.job) HN.out (Nat.lt_trans HF.out.text (by decide))).mono ?_
      rintro x w3 ⟨rfl, nv', hsn, hloc, hT⟩
      have HM3 := Lib.hid (show Ms w3 w1.heap.size m from hear_keep HH.out hT HM.out HSZ.out)
      have HR3 := Lib.hid (show Ms w3 (w1.heap.size + 1) { Mg.none 15 with job := m.job, badge := m.badge } from hear_keep HH.out hT HR.out (Nat.le_succ_of_le HSZ.out))
      have HF3 := Lib.hid (hear_keep HH.out hT HF2.out (Nat.le_refl _))
      have HS3 := Lib.hid (And.intro hsn (And.intro hloc hT))
      clear hsn hloc hT
      obtain ⟨q0, q1, q2, q3, q4, q5, q6, q7, q8, q9, q10⟩ := HM3.out.all
      obtain ⟨r0, r1, r2, r3, r4, r5, r6, r7, r8, r9, r10⟩ := HR3.out.all
      have rf := fun j => HR3.out.fz j
      have hfl := HF3.out
      have n0 := hfl.cell (j := 0) rfl
      have n1 := hfl.cell (j := 1) rfl
      clear hfl
      by_cases he : s.err m.job m.badge m.idx m.text = 161
      · have t2 : (s.err m.job m.badge m.idx m.text == 161) = true := by rw [beq_iff_eq]; exact he
        have hans : s.answer m = { Mg.none 16 with job := m.job, badge := m.badge, cnt := 0 } := by unfold Snk.answer; rw [if_pos he]; rfl
        have HANS := Lib.hid hans
        obtain ⟨O, C, hO, hE⟩ : ∃ (O : ByteArray) (C : Int), O = Mg.out ({ Mg.none 16 with job := m.job, badge := m.badge, cnt := 0 } : Mg) ∧ ∀ wx, Calls Try.prog 16 #[Mg.val ({ Mg.none 16 with job := m.job, badge := m.badge, cnt := 0 } : Mg)] wx fun e w' => e = .returned (.tuple #[.string O, .int .i64 C]) ∧ Below wx.heap.size wx w' := ⟨_, _, rfl, fun wx => Encode_any ({ Mg.none 16 with job := m.job, badge := m.badge, cnt := 0 } : Mg) wx (ans_fit HF.out 16 0 (by decide) (by decide))⟩
        have HE := Lib.hid hE
        have HO := Lib.hid hO
        clear hE hO
        clear hans he hfit
        go_wp2_with fail
        refine (HE.out _).mono ?_
        rintro x w5 ⟨rfl, hb5⟩
        have HG := Lib.hid (show w3.grownBy w5 (some (w1.heap.size + 1)) from (only_set (only_refl w3 (some (w1.heap.size + 1))) (.inl rfl) (.int .i64 16)).trans (only_of_below hb5 _))
        have hf5 : Cells w5 w.heap.size 31 #[.int .i64 nd, .int .i64 lf] := HF3.out.grown HG.out (by simp; have := HSZ.out; omega)
        have m0 := hf5.cell (j := 0) rfl
        have m1 := hf5.cell (j := 1) rfl
        clear hb5 hf5 q0 q1 q2 q3 q4 q5 q6 q7 q8 q9 q10 r0 r1 r2 r3 r4 r5 r6 r7 r8 r9 r10 n0 n1 rf
        go_wp2
        go_ret
        rw [HANS.out]
        have hO := HO.out
        subst hO
        have hend := hear_end (nd := nd) (lf := lf) (r := { Mg.none 16 with job := m.job, badge := m.badge, cnt := 0 }) (Nat.le_trans HB2.out.size HS3.out.2.2.size) HS3.out.1 (hear_loc HS3.out.2.1 HB2.out.size) (hear_turns HH.out HB2.out HS3.out.2.2) HG.out (Nat.le_succ_of_le HSZ.out) HR3.out
        obtain ⟨nv'', e1, e2, e3, e4⟩ := hend
        exact ⟨_, nv'', rfl, e1, e2, e3, e4⟩
      · have t2 : (s.err m.job m.badge m.idx m.text == 161) = false := by rw [beq_eq_false_iff_ne]; exact he
        have hcb := HS3.out.1.fit.count m.job m.badge
        have hans : s.answer m = { Mg.none 15 with job := m.job, badge := m.badge, cnt := ((s.put m.job m.badge m.idx m.text).count m.job m.badge : Int) } := by unfold Snk.answer; rw [if_neg he]
        have HANS := Lib.hid hans
        obtain ⟨O, C, hO, hE⟩ : ∃ (O : ByteArray) (C : Int), O = Mg.out ({ Mg.none 15 with job := m.job, badge := m.badge, cnt := ((s.put m.job m.badge m.idx m.text).count m.job m.badge : Int) } : Mg) ∧ ∀ wx, Calls Try.prog 16 #[Mg.val ({ Mg.none 15 with job := m.job, badge := m.badge, cnt := ((s.put m.job m.badge m.idx m.text).count m.job m.badge : Int) } : Mg)] wx fun e w' => e = .returned (.tuple #[.string O, .int .i64 C]) ∧ Below wx.heap.size wx w' := ⟨_, _, rfl, fun wx => Encode_any ({ Mg.none 15 with job := m.job, badge := m.badge, cnt := ((s.put m.job m.badge m.idx m.text).count m.job m.badge : Int) } : Mg) wx (ans_fit HF.out 15 _ (by decide) (by omega))⟩
        have HE := Lib.hid hE
        have HO := Lib.hid hO
        clear hE hO
        have HC := Lib.hid (snkCount_any w3 HS3.out.1 m.job m.badge (i64_wf HF.out.job))
        clear hans he hfit
        generalize hct : (s.put m.job m.badge m.idx m.text).count m.job m.badge = ct at *
        go_wp2_with fail
        refine HC.out.mono ?_
        rintro x w4 ⟨rfl, hb4⟩
        have HR4 := Lib.hid (show Ms w4 (w1.heap.size + 1) { Mg.none 15 with job := m.job, badge := m.badge } from Cells.keep HR3.out hb4)
        obtain ⟨u0, u1, u2, u3, u4, u5, u6, u7, u8, u9, u10⟩ := Ms.all HR4.out
        have uf := fun j => HR4.out.fz j
        have HB4 := Lib.hid hb4
        clear hb4
        go_wp2_with fail
        refine (HE.out _).mono ?_
        rintro x w5 ⟨rfl, hb5⟩
        have HG := Lib.hid (show w3.grownBy w5 (some (w1.heap.size + 1)) from ((only_of_below HB4.out _).trans (only_set (only_refl w4 (some (w1.heap.size + 1))) (.inl rfl) (.int .i64 (ct : Int)))).trans (only_of_below hb5 _))
        have hf5 : Cells w5 w.heap.size 31 #[.int .i64 nd, .int .i64 lf] := HF3.out.grown HG.out (by simp; have := HSZ.out; omega)
        have m0 := hf5.cell (j := 0) rfl
        have m1 := hf5.cell (j := 1) rfl
        clear hb5 hf5 q0 q1 q2 q3 q4 q5 q6 q7 q8 q9 q10 r0 r1 r2 r3 r4 r5 r6 r7 r8 r9 r10 n0 n1 rf u0 u1 u2 u3 u4 u5 u6 u7 u8 u9 u10 uf
        go_wp2
        go_ret
        rw [HANS.out]
        have hO := HO.out
        subst hO
        have hend := hear_end (nd := nd) (lf := lf) (r := { Mg.none 15 with job := m.job, badge := m.badge, cnt := (ct : Int) }) (Nat.le_trans HB2.out.size HS3.out.2.2.size) HS3.out.1 (hear_loc HS3.out.2.1 HB2.out.size) (hear_turns HH.out HB2.out HS3.out.2.2) HG.out (Nat.le_succ_of_le HSZ.out) HR3.out
        obtain ⟨nv'', e1, e2, e3, e4⟩ := hend
        exact ⟨_, nv'', rfl, e1, e2, e3, e4⟩
    · rw [if_neg (fun e => hk e.2)] at hheard hreply
      rw [hheard, hreply]
      have t1 : (m.kind != 6) = true := by rw [bne_iff_ne]; exact hk
      have HD := Lib.hid hd
      clear hd hheard hreply hdc hfit hck hk
      go_enter Try.func8, Try.ntmps8
      go_wp2_with fail
      refine (HD.out _).mono ?_
      rintro x w1 ⟨rfl, hb1⟩
      have HB := Lib.hid (((Below.refl w.heap.size w).alloc (Nat.le_refl _) _).trans (hb1.mono (by simp)) : Below w.heap.size w w1)
      clear hb1
      go_wp2
      go_ret
      exact ⟨_, nv, rfl, HH.out.below (HB.out.alloc HB.out.size _), .inl rfl, Turns.of_below (HB.out.alloc HB.out.size _), rfl⟩
  · rw [if_neg (fun e => hc e.1)] at hheard hreply
    rw [hheard, hreply]
    have t1 : (c != 0) = true := by rw [bne_iff_ne]; exact hc
    have HD := Lib.hid hd
    clear hd hheard hreply hdc hc
    go_enter Try.func8, Try.ntmps8
    go_wp2_with fail
    refine (HD.out _).mono ?_
    rintro x w1 ⟨rfl, hb1⟩
    have HB := Lib.hid (((Below.refl w.heap.size w).alloc (Nat.le_refl _) _).trans (hb1.mono (by simp)) : Below w.heap.size w w1)
    clear hb1
    go_wp2
    go_ret
    exact ⟨_, nv, rfl, HH.out.below (HB.out.alloc HB.out.size _), .inl rfl, Turns.of_below (HB.out.alloc HB.out.size _), rfl⟩
end Go.Proofs.Ytpnfdmglhonkmaa
