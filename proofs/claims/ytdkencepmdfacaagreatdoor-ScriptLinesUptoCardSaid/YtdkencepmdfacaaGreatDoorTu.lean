/- script.Parse (contract). -/
import Derived.RangeFuncBox
import Derived.WalkMore
import Derived.Test.YtdkencepmdfacaaGreatDoorGr12
import Derived.Test.YtdkencepmdfacaaGreatDoorTk
import Derived.Test.YtdkencepmdfacaaGreatDoorTr
set_option maxRecDepth 100000
namespace Go.Proofs.YtdkencepmdfacaaGreatDoor
open Go.RowKit Ieee

theorem results_cell_tmp3 {fn : Func} {p u q r : Tmp} {ty : TypeId} (h : fn.results = #[.cell p ty, .tmp u, .tmp q, .tmp r]) (tmps : Array Value) (P : Program) (w : World) :
    (results fn tmps).run P w =
      ((asAddr (tmps.getD p undef)).run P w).andThen fun a w₁ => ((loadVar ty a).run P w₁).andThen fun v w₂ => .ok (.tuple #[v, tmps.getD u undef, tmps.getD q undef, tmps.getD r undef]) w₂ := by
  simp only [results, h]
  simp [Sem.run_bind, Result.andThen]
theorem ret_cfg4 {fn : Func} {R : Ending → World → Prop} {a : Act} {w : World} (h : fn.results = #[.cell 2 23, .tmp 3, .tmp 4, .tmp 5]) {g : Nat} {c : Cfg} {x y z : Value}
    (hp : a.tmps.getD 2 undef = .pointer (some ⟨g, 0, none⟩)) (hx : a.tmps.getD 3 undef = x) (hy : a.tmps.getD 4 undef = y) (hz : a.tmps.getD 5 undef = z) (hg : Cells w g 23 #[.int .i64 c.ru, .int .i64 c.le, .int .i64 c.re, .int .i64 c.att, .int .i64 c.wi, .int .i64 c.qu, .int .i64 c.bl, .int .i64 c.ev, .int .i64 c.ha]) (hdef : a.defers = []) (hR : R (.returned (.tuple #[c.val, x, y, z])) w) : bodyPost Tryz.prog fn R .ret a w := by
  refine bodyPost_ret (v := .tuple #[c.val, x, y, z]) ?_ hdef hR
  rw [results_cell_tmp3 h, hp, hx, hy, hz]
  simp only [asAddr, Sem.run_pure, Result.andThen, run_loadVar_row w g 23 23 #[.int .i64 c.ru, .int .i64 c.le, .int .i64 c.re, .int .i64 c.att, .int .i64 c.wi, .int .i64 c.qu, .int .i64 c.bl, .int .i64 c.ev, .int .i64 c.ha] _ _ hg Tryz.underlying23 rfl cfg_size]
  rfl
theorem stp_info : (Tryz.prog.info? 34).map (fun i => (i.zero, i.size, i.bytes)) = some (some (.agg #[.int .i64 0, .int .i64 0, .int .i64 0, .int .i64 0, .string ⟨#[]⟩]), 5, 48) := by kernel_rfl
theorem RowT.ne {w : World} {base g : Nat} {v : Value} {l : List Stp} {t : TypeId} {c : Array Value} (h : RowT w base v l) (hc : Cells w g t c) (ht : t ≠ 34) : ∀ k, v.ownBlock = some k → k ≠ g := fun k hk e => by
  subst e
  obtain ⟨cur, hcur⟩ := own_block_type h hk
  unfold Cells at hc
  rw [hcur] at hc
  injection hc with hc
  injection hc with h1 h2
  exact ht h2.symm
theorem RowT.below9 {w : World} {base g : Nat} {v : Value} {l : List Stp} {t : TypeId} {k0 : Array Value} (h : RowT w base v l) (hc : Cells w g t k0) (ht : t ≠ 34) {a b c d e f x i j : Value} :
    RowT (((((((((w.setCell ⟨g, 0, none⟩ a).setCell ⟨g, 1, none⟩ b).setCell ⟨g, 2, none⟩ c).setCell ⟨g, 3, none⟩ d).setCell ⟨g, 4, none⟩ e).setCell ⟨g, 5, none⟩ f).setCell ⟨g, 6, none⟩ x).setCell ⟨g, 7, none⟩ i).setCell ⟨g, 8, none⟩ j) base v l := by
  have hn : ∀ n, v.ownBlock ≠ some (⟨g, n, none⟩ : Addr).block := fun n e => h.ne hc ht g e rfl
  exact ownsRow_setCell_other (ownsRow_setCell_other (ownsRow_setCell_other (ownsRow_setCell_other (ownsRow_setCell_other (ownsRow_setCell_other (ownsRow_setCell_other (ownsRow_setCell_other (ownsRow_setCell_other h (hn 0) a) (hn 1) b) (hn 2) c) (hn 3) d) (hn 4) e) (hn 5) f) (hn 6) x) (hn 7) i) (hn 8) j
def strLen : Value → Nat
  | .string b => b.size
  | _ => 0
/-- what is left to read, when at_ lines have been read -/
def leftY (at_ : Nat) (T : List UInt8) : List (List UInt8 × Bool) := yl (decide (at_ = 0)) (spl 10 T)
/-- what a script's reader answers -/
def SParseOut (w : World) (t : List UInt8) (e : Ending) (w' : World) : Prop :=
  (∃ A cap, e = .returned (.tuple #[(parseS t).2.2.1.val, .slice A (parseS t).2.2.2.length cap, .int .i64 (parseS t).1, .int .i64 ((parseS t).2.1 : Nat)]) ∧ RowT w' w.heap.size (.slice A (parseS t).2.2.2.length cap) (parseS t).2.2.2) ∧ Below w.heap.size w w'
theorem so_bad {w w' : World} {T : List UInt8} {c : Int} {k : Nat} (h : parseS T = (c, k, cfg0, [])) (hb : Below w.heap.size w w') : SParseOut w T (.returned (.tuple #[cfg0.val, .slice none 0 0, .int .i64 c, .int .i64 (k : Nat)])) w' := by
  unfold SParseOut
  rw [h]
  exact ⟨⟨none, 0, rfl, rowT_nil _ _⟩, hb⟩
/-- one line of the reader -/
theorem parse_line {at_ : Nat} {T : List UInt8} (h : at_ = 0 ∨ T ≠ []) : ∃ S1 R en, cutN T = (S1, R, en) ∧ S1.length ≤ T.length ∧ R.length ≤ T.length ∧ (T ≠ [] → R.length < T.length) ∧ leftY at_ T = (S1, en) :: leftY (at_ + 1) R := by
  have hy := yl_step (decide (at_ = 0)) T (h.imp (fun e => decide_eq_true e) id)
  have hl : ∀ R, leftY (at_ + 1) R = yl false (spl 10 R) := fun R => by unfold leftY; rw [decide_eq_false (by omega)]
  rcases cutN_step T with ⟨e, hc⟩ | ⟨a, b, e, hc, hlen⟩
  · exact ⟨T, [], false, hc, Nat.le_refl _, Nat.zero_le _, fun hT => List.length_pos_iff.2 hT, by rw [hl]; exact hy.1 e⟩
  · exact ⟨a, b, true, hc, by omega, by omega, fun _ => by omega, by rw [hl]; exact hy.2 a b e⟩

set_option maxHeartbeats 16000000 in
set_option maxRecDepth 100000 in
theorem sparse_any (t : List UInt8) (hl : t.length < 1073741824) (w : World) (hA : LibAt w) :
    Calls Tryz.prog 10 #[.string (strOf t)] w (SParseOut w t) := by
  obtain ⟨i0, hi0, hz0, hz1, hz2⟩ := info_parts stp_info
  have HA : Hid (∀ W, Below w.heap.size w W → LibAt W) := Lib.hid fun W hW => hA.keep hW
  have HX := Lib.hid (Cells.new w 23 #[.int .i64 0, .int .i64 0, .int .i64 0, .int .i64 0, .int .i64 0, .int .i64 0, .int .i64 0, .int .i64 0, .int .i64 0])
  have HB := Lib.hid ((Below.refl w.heap.size w).alloc (Nat.le_refl _) (.cells #[.int .i64 0, .int .i64 0, .int .i64 0, .int .i64 0, .int .i64 0, .int .i64 0, .int .i64 0, .int .i64 0, .int .i64 0] 23))
  have hsz : (strOf t).size = t.length := ba_size t
  by_cases hbig : 32768 < t.length
  case pos =>
    have e0 : parseS t = (232, 0, cfg0, []) := by unfold parseS; rw [if_pos hbig]
    have HE0 : Hid (∀ w', Below w.heap.size w w' → SParseOut w t (.returned (.tuple #[cfg0.val, .slice none 0 0, .int .i64 232, .int .i64 0])) w') := Lib.hid fun w' hb => so_bad e0 hb
    have t1 : (32768 : Int) < (strOf t).size := by omega
    generalize SParseOut w t = Q at *
    generalize strOf t = S at *
    clear hbig e0 hsz hA
    go_enter Tryz.func10, Tryz.ntmps10
    go_upto_region 1 with fail
    generalize w.alloc (.cells #[.int .i64 0, .int .i64 0, .int .i64 0, .int .i64 0, .int .i64 0, .int .i64 0, .int .i64 0, .int .i64 0, .int .i64 0] 23) = w1 at *
    have x0 : w1.cell? ⟨w.heap.size, 0, none⟩ = some (.int .i64 0) := HX.out.cell (j := 0) rfl
    have x1 : w1.cell? ⟨w.heap.size, 1, none⟩ = some (.int .i64 0) := HX.out.cell (j := 1) rfl
    have x2 : w1.cell? ⟨w.heap.size, 2, none⟩ = some (.int .i64 0) := HX.out.cell (j := 2) rfl
    have x3 : w1.cell? ⟨w.heap.size, 3, none⟩ = some (.int .i64 0) := HX.out.cell (j := 3) rfl
    have x4 : w1.cell? ⟨w.heap.size, 4, none⟩ = some (.int .i64 0) := HX.out.cell (j := 4) rfl
    have x5 : w1.cell? ⟨w.heap.size, 5, none⟩ = some (.int .i64 0) := HX.out.cell (j := 5) rfl
    have x6 : w1.cell? ⟨w.heap.size, 6, none⟩ = some (.int .i64 0) := HX.out.cell (j := 6) rfl
    have x7 : w1.cell? ⟨w.heap.size, 7, none⟩ = some (.int .i64 0) := HX.out.cell (j := 7) rfl
    have x8 : w1.cell? ⟨w.heap.size, 8, none⟩ = some (.int .i64 0) := HX.out.cell (j := 8) rfl
    have xz0 := HX.out.fz 0
    have xz1 := HX.out.fz 1
    have xz2 := HX.out.fz 2
    have xz3 := HX.out.fz 3
    have xz4 := HX.out.fz 4
    have xz5 := HX.out.fz 5
    have xz6 := HX.out.fz 6
    have xz7 := HX.out.fz 7
    have xz8 := HX.out.fz 8
    go_step3
    go_wp2
    rw [Exit.noGoto_ret]
    exact ret_cfg4 (c := cfg0) rfl rfl rfl rfl rfl (set9_cells HX.out) rfl (HE0.out _ (set9_below HB.out (Nat.le_refl _)))
  have t1 : ¬ (32768 : Int) < (strOf t).size := by omega
  have HTL : Hid (t.length ≤ 32768) := Lib.hid (by omega)
  obtain ⟨PS, hPS⟩ : ∃ PS, parseS t = PS := ⟨_, rfl⟩
  have HPS : Hid (PS = parseSY (leftY 0 t) 1 cfg0 []) := Lib.hid (by rw [← hPS]; unfold parseS; rw [if_neg hbig]; rfl)
  have HOUT : Hid (∀ (A : Option Addr) (cap : Nat) (c : Cfg) (l : List Stp) (er : Int) (k : Nat) (kk : Int) (w' : World), kk = (k : Int) → PS = (er, k, c, l) → RowT w' w.heap.size (.slice A l.length cap) l → Below w.heap.size w w' → SParseOut w t (.returned (.tuple #[c.val, .slice A l.length cap, .int .i64 er, .int .i64 kk])) w') := Lib.hid fun A cap c l er k kk w' hkk hp hr hb => by
    subst hkk
    unfold SParseOut
    rw [hPS, hp]
    exact ⟨⟨A, cap, rfl, hr⟩, hb⟩
  generalize SParseOut w t = Q at *
  have HSZ := Lib.hid hsz
  clear hPS hbig hsz hA hl
  go_enter Tryz.func10, Tryz.ntmps10
  go_upto_region 1 with fail
  generalize w.alloc (.cells #[.int .i64 0, .int .i64 0, .int .i64 0, .int .i64 0, .int .i64 0, .int .i64 0, .int .i64 0, .int .i64 0, .int .i64 0] 23) = w1 at *
  go_step3
  have HX2 := Lib.hid (HX.out.alloc (.cells #[.int .i64 0, .int .i64 0, .int .i64 0, .int .i64 0, .int .i64 0, .int .i64 0, .int .i64 0, .int .i64 0, .int .i64 0] 23))
  have HC2 : Hid (Cells (w1.alloc (.cells #[.int .i64 0, .int .i64 0, .int .i64 0, .int .i64 0, .int .i64 0, .int .i64 0, .int .i64 0, .int .i64 0, .int .i64 0] 23)) w1.heap.size 23 #[.int .i64 cfg0.ru, .int .i64 cfg0.le, .int .i64 cfg0.re, .int .i64 cfg0.att, .int .i64 cfg0.wi, .int .i64 cfg0.qu, .int .i64 cfg0.bl, .int .i64 cfg0.ev, .int .i64 cfg0.ha]) := Lib.hid (Cells.new w1 23 #[.int .i64 0, .int .i64 0, .int .i64 0, .int .i64 0, .int .i64 0, .int .i64 0, .int .i64 0, .int .i64 0, .int .i64 0])
  have HB2 := Lib.hid (HB.out.alloc HB.out.size (.cells #[.int .i64 0, .int .i64 0, .int .i64 0, .int .i64 0, .int .i64 0, .int .i64 0, .int .i64 0, .int .i64 0, .int .i64 0] 23))
  have HGC : Hid (w.heap.size < w1.heap.size) := Lib.hid HX.out.lt
  obtain ⟨S, hS⟩ : ∃ S, strOf t = S := ⟨_, rfl⟩
  have HS := Lib.hid hS
  rw [hS] at t1 ⊢
  clear hS
  go_upto_region 4 with fail
  clear t1 HX HB
  generalize w1.alloc (.cells #[.int .i64 0, .int .i64 0, .int .i64 0, .int .i64 0, .int .i64 0, .int .i64 0, .int .i64 0, .int .i64 0, .int .i64 0] 23) = w2 at *
  generalize w1.heap.size = CB at *
  go_wp2
  go_step3
  go_wp2
  go_loopw [0, 7, 8, 9] (fun tv lv ev av wr => ∃ (at_ : Nat) (T : List UInt8) (A : Option Addr) (cap : Nat) (acc : List Stp) (c : Cfg), tv = .string (strOf T) ∧ lv = .slice A acc.length cap ∧ ev = .int .i64 0 ∧ av = .int .i64 (at_ : Int) ∧ T.length ≤ 32768 ∧ at_ + T.length ≤ 32769 ∧ acc.length ≤ 2000 ∧ RowT wr w.heap.size (.slice A acc.length cap) acc ∧ Cells wr w.heap.size 23 #[.int .i64 0, .int .i64 0, .int .i64 0, .int .i64 0, .int .i64 0, .int .i64 0, .int .i64 0, .int .i64 0, .int .i64 0] ∧ Cells wr CB 23 #[.int .i64 c.ru, .int .i64 c.le, .int .i64 c.re, .int .i64 c.att, .int .i64 c.wi, .int .i64 c.qu, .int .i64 c.bl, .int .i64 c.ev, .int .i64 c.ha] ∧ Below w.heap.size w wr ∧ PS = parseSY (leftY at_ T) (at_ + 1) c acc) (fun tv _ _ av _ => strLen tv + (1 - (intOf av).toNat))
  case atStart => exact ⟨0, t, none, 0, [], cfg0, by rw [HS.out], rfl, rfl, rfl, HTL.out, by have := HTL.out; omega, by simp, rowT_nil _ _, HX2.out, HC2.out, HB2.out, HPS.out⟩
  case round =>
    obtain ⟨at_, T, A, cap, acc, c, rfl, rfl, rfl, rfl, hT, hat, hac, hr, hx, hc, hb, hps⟩ := hrel
    have HTR := Lib.hid hT
    have HAT := Lib.hid hat
    have HACC := Lib.hid hac
    have HRR := Lib.hid hr
    have HXR := Lib.hid hx
    have HCR := Lib.hid hc
    have HBR := Lib.hid hb
    have HPR := Lib.hid hps
    clear hT hat hac hr hx hc hb hps HX2 HC2 HB2 HPS HS HTL HSZ
    by_cases hgo : at_ = 0 ∨ T ≠ []
    case neg =>
      have hT0 : T = [] := Classical.byContradiction fun h => hgo (.inr h)
      have ha0 : at_ ≠ 0 := fun h => hgo (.inl h)
      subst hT0
      have e0 : PS = (0, 0, c, acc) := HPR.out.trans (by
        unfold leftY
        rw [decide_eq_false ha0, yl_end, parseSY])
      have HE0 := Lib.hid e0
      have t0 : ((at_ : Int) == 0) = false := by rw [beq_eq_false_iff_ne]; omega
      have n0 : wr.cell? ⟨CB, 0, none⟩ = some (.int .i64 c.ru) := HCR.out.cell (j := 0) rfl
      have n1 : wr.cell? ⟨CB, 1, none⟩ = some (.int .i64 c.le) := HCR.out.cell (j := 1) rfl
      have n2 : wr.cell? ⟨CB, 2, none⟩ = some (.int .i64 c.re) := HCR.out.cell (j := 2) rfl
      have n3 : wr.cell? ⟨CB, 3, none⟩ = some (.int .i64 c.att) := HCR.out.cell (j := 3) rfl
      have n4 : wr.cell? ⟨CB, 4, none⟩ = some (.int .i64 c.wi) := HCR.out.cell (j := 4) rfl
      have n5 : wr.cell? ⟨CB, 5, none⟩ = some (.int .i64 c.qu) := HCR.out.cell (j := 5) rfl
      have n6 : wr.cell? ⟨CB, 6, none⟩ = some (.int .i64 c.bl) := HCR.out.cell (j := 6) rfl
      have n7 : wr.cell? ⟨CB, 7, none⟩ = some (.int .i64 c.ev) := HCR.out.cell (j := 7) rfl
      have n8 : wr.cell? ⟨CB, 8, none⟩ = some (.int .i64 c.ha) := HCR.out.cell (j := 8) rfl
      have x0 : wr.cell? ⟨w.heap.size, 0, none⟩ = some (.int .i64 0) := HXR.out.cell (j := 0) rfl
      have x1 : wr.cell? ⟨w.heap.size, 1, none⟩ = some (.int .i64 0) := HXR.out.cell (j := 1) rfl
      have x2 : wr.cell? ⟨w.heap.size, 2, none⟩ = some (.int .i64 0) := HXR.out.cell (j := 2) rfl
      have x3 : wr.cell? ⟨w.heap.size, 3, none⟩ = some (.int .i64 0) := HXR.out.cell (j := 3) rfl
      have x4 : wr.cell? ⟨w.heap.size, 4, none⟩ = some (.int .i64 0) := HXR.out.cell (j := 4) rfl
      have x5 : wr.cell? ⟨w.heap.size, 5, none⟩ = some (.int .i64 0) := HXR.out.cell (j := 5) rfl
      have x6 : wr.cell? ⟨w.heap.size, 6, none⟩ = some (.int .i64 0) := HXR.out.cell (j := 6) rfl
      have x7 : wr.cell? ⟨w.heap.size, 7, none⟩ = some (.int .i64 0) := HXR.out.cell (j := 7) rfl
      have x8 : wr.cell? ⟨w.heap.size, 8, none⟩ = some (.int .i64 0) := HXR.out.cell (j := 8) rfl
      have xz0 := HXR.out.fz 0
      have xz1 := HXR.out.fz 1
      have xz2 := HXR.out.fz 2
      have xz3 := HXR.out.fz 3
      have xz4 := HXR.out.fz 4
      have xz5 := HXR.out.fz 5
      have xz6 := HXR.out.fz 6
      have xz7 := HXR.out.fz 7
      have xz8 := HXR.out.fz 8
      clear e0 ha0 hgo
      go_wp2
      first | rw [Exit.noGoto_ret] | (simp only [Exit.noGoto_ret])
      exact ret_cfg4 (c := c) rfl rfl rfl rfl rfl (set9_cells HXR.out) rfl (HOUT.out A cap c acc 0 0 _ _ rfl HE0.out (HRR.out.below9 HXR.out (by decide)) (set9_below HBR.out (Nat.le_refl _)))
    obtain ⟨S1, R, en, hcut, l1, l2, l3, hy⟩ := parse_line hgo
    have HPL : Hid (PS = parseSY ((S1, en) :: leftY (at_ + 1) R) (at_ + 1) c acc) := Lib.hid (HPR.out.trans (by rw [hy]))
    have kc := fun W => cut10_any T (by have := HTR.out; omega) W
    rw [hcut] at kc
    have KC := Lib.hid kc
    have HL1 : Hid (S1.length ≤ 32768) := Lib.hid (by have := HTR.out; omega)
    have HL2 : Hid (R.length ≤ 32768) := Lib.hid (by have := HTR.out; omega)
    have HL3 : Hid (at_ + 1 + R.length ≤ 32769 ∧ strLen (.string (strOf R)) + (1 - (at_ + 1)) < strLen (.string (strOf T)) + (1 - at_)) := Lib.hid (by
      have h0 := HTR.out
      have h1 := HAT.out
      have e1 : strLen (.string (strOf R)) = R.length := ba_size R
      have e2 : strLen (.string (strOf T)) = T.length := ba_size T
      rw [e1, e2]
      rcases Nat.eq_zero_or_pos at_ with h | h
      · subst h; omega
      · have := l3 (hgo.resolve_left (by omega))
        omega)
    have hs1 : (strOf S1).size = S1.length := ba_size S1
    have hwi : wrap64 ((at_ : Int) + 1) = ((at_ + 1 : Nat) : Int) := by have := HAT.out; unfold wrap64; omega
    by_cases hbb : 4096 < S1.length ∨ acc.length = 2000
    case pos =>
      have HE0 : Hid (PS = (232, at_ + 1, cfg0, [])) := Lib.hid (HPL.out.trans (by rw [parseSY, if_pos hbb]))
      have hcase : (4096 : Int) < (strOf S1).size ∨ (¬ (4096 : Int) < (strOf S1).size ∧ ((acc.length : Int) == 2000) = true) := by
        by_cases h : 4096 < S1.length
        · exact .inl (by omega)
        · exact .inr ⟨by omega, by rw [beq_iff_eq]; have := hbb.resolve_left h; omega⟩
      have hco : ((at_ : Int) == 0) = true ∨ (((at_ : Int) == 0) = false ∧ ((strOf T).toList == []) = false) := by
        by_cases h : at_ = 0
        · exact .inl (by rw [beq_iff_eq]; omega)
        · exact .inr ⟨by rw [beq_eq_false_iff_ne]; omega, by rw [str_toList, beq_eq_false_iff_ne]; exact hgo.resolve_left h⟩
      clear hbb hgo hcut l1 l2 l3 hy hs1 kc HL3
      generalize strOf S1 = SS at *
      generalize strOf R = SR at *
      generalize strOf T = ST at *
      generalize acc.length = nacc at *
      rcases hco with t0 | ⟨t0, t0'⟩ <;> rcases hcase with t1 | ⟨t1, t2⟩
      all_goals
        go_wp2_with (go_at_call 28; refine (KC.out _).mono ?_; rintro _ w3 ⟨rfl, hb3⟩; have HX3 := Lib.hid (HXR.out.keep hb3); have HB3 := Lib.hid (grow_to HBR.out hb3); have x0 : w3.cell? ⟨w.heap.size, 0, none⟩ = some (.int .i64 0) := HX3.out.cell (j := 0) rfl; have x1 : w3.cell? ⟨w.heap.size, 1, none⟩ = some (.int .i64 0) := HX3.out.cell (j := 1) rfl; have x2 : w3.cell? ⟨w.heap.size, 2, none⟩ = some (.int .i64 0) := HX3.out.cell (j := 2) rfl; have x3 : w3.cell? ⟨w.heap.size, 3, none⟩ = some (.int .i64 0) := HX3.out.cell (j := 3) rfl; have x4 : w3.cell? ⟨w.heap.size, 4, none⟩ = some (.int .i64 0) := HX3.out.cell (j := 4) rfl; have x5 : w3.cell? ⟨w.heap.size, 5, none⟩ = some (.int .i64 0) := HX3.out.cell (j := 5) rfl; have x6 : w3.cell? ⟨w.heap.size, 6, none⟩ = some (.int .i64 0) := HX3.out.cell (j := 6) rfl; have x7 : w3.cell? ⟨w.heap.size, 7, none⟩ = some (.int .i64 0) := HX3.out.cell (j := 7) rfl; have x8 : w3.cell? ⟨w.heap.size, 8, none⟩ = some (.int .i64 0) := HX3.out.cell (j := 8) rfl; have xz0 := HX3.out.fz 0; have xz1 := HX3.out.fz 1; have xz2 := HX3.out.fz 2; have xz3 := HX3.out.fz 3; have xz4 := HX3.out.fz 4; have xz5 := HX3.out.fz 5; have xz6 := HX3.out.fz 6; have xz7 := HX3.out.fz 7; have xz8 := HX3.out.fz 8; clear hb3)
        first | rw [Exit.noGoto_ret] | (simp only [Exit.noGoto_ret])
        exact ret_cfg4 (c := cfg0) rfl rfl rfl rfl rfl (set9_cells HX3.out) rfl (HOUT.out none 0 cfg0 [] 232 (at_ + 1) _ _ (by first | exact hwi | rfl | decide) HE0.out (rowT_nil _ _) (set9_below HB3.out (Nat.le_refl _)))
    have hs4 : S1.length ≤ 4096 := by
      rcases Nat.lt_or_ge 4096 S1.length with h | h
      · exact absurd (.inl h) hbb
      · exact h
    have t1 : ¬ (4096 : Int) < (strOf S1).size := by omega
    have t2 : ((acc.length : Int) == 2000) = false := by rw [beq_eq_false_iff_ne]; exact fun h => hbb (.inr (by omega))
    have HBBN := Lib.hid hbb
    have HAC2 : Hid (acc.length < 2000) := Lib.hid (by have := HACC.out; have := fun h => hbb (.inr h); omega)
    rcases Nat.eq_zero_or_pos at_ with rfl | hpos
    · have t0 : (((0 : Nat) : Int) == 0) = true := rfl
      have tw : (((0 + 1 : Nat) : Int) == 1) = true := rfl
      cases hrh : readHead S1 with
      | none =>
        have KH : Hid (∀ W, AllAt W → Calls Tryz.prog 29 #[.string (strOf S1)] W fun e w' => (∃ c' : Cfg, e = .returned (.tuple #[.agg #[.int .i64 c'.ru, .int .i64 c'.le, .int .i64 c'.re, .int .i64 c'.att, .int .i64 c'.wi, .int .i64 c'.qu, .int .i64 c'.bl, .int .i64 c'.ev, .int .i64 c'.ha], .bool false])) ∧ Below W.heap.size W w') := Lib.hid fun W hW => by
          have k := shead_any S1 HL1.out W hW
          rw [hrh] at k
          refine k.mono ?_
          rintro e w' ⟨⟨c', he, _⟩, hb⟩
          exact ⟨⟨c', he⟩, hb⟩
        have HE0 : Hid (PS = (230, 1, cfg0, [])) := Lib.hid (HPL.out.trans (by rw [parseSY, if_neg hbb, if_pos rfl, hrh]))
        clear hbb hgo hcut l1 l2 l3 hy hs1 kc HL3 hs4 hrh
        generalize strOf S1 = SS at *
        generalize strOf R = SR at *
        generalize strOf T = ST at *
        generalize acc.length = nacc at *
        go_wp2_with (first | (go_at_call 28; refine (KC.out _).mono ?_; rintro _ w3 ⟨rfl, hb3⟩; have HX3 := Lib.hid (HXR.out.keep hb3); have HC3 := Lib.hid (HCR.out.keep hb3); have HR3 := Lib.hid (HRR.out.keep hb3); have HB3 := Lib.hid (grow_to HBR.out hb3); clear hb3) | (go_at_call 29; refine (KH.out _ (HA.out _ HB3.out).all).mono ?_; rintro _ w4 ⟨⟨c', rfl⟩, hb4⟩; have HX4 := Lib.hid (HX3.out.keep hb4); have HB4 := Lib.hid (grow_to HB3.out hb4); have HX4a : Hid (Cells (w4.alloc (.cells #[.int .i64 c'.ru, .int .i64 c'.le, .int .i64 c'.re, .int .i64 c'.att, .int .i64 c'.wi, .int .i64 c'.qu, .int .i64 c'.bl, .int .i64 c'.ev, .int .i64 c'.ha] 23)) w.heap.size 23 #[.int .i64 0, .int .i64 0, .int .i64 0, .int .i64 0, .int .i64 0, .int .i64 0, .int .i64 0, .int .i64 0, .int .i64 0]) := Lib.hid (HX4.out.alloc (.cells #[.int .i64 c'.ru, .int .i64 c'.le, .int .i64 c'.re, .int .i64 c'.att, .int .i64 c'.wi, .int .i64 c'.qu, .int .i64 c'.bl, .int .i64 c'.ev, .int .i64 c'.ha] 23)); have x0 : (w4.alloc (.cells #[.int .i64 c'.ru, .int .i64 c'.le, .int .i64 c'.re, .int .i64 c'.att, .int .i64 c'.wi, .int .i64 c'.qu, .int .i64 c'.bl, .int .i64 c'.ev, .int .i64 c'.ha] 23)).cell? ⟨w.heap.size, 0, none⟩ = some (.int .i64 0) := HX4a.out.cell (j := 0) rfl; have x1 : (w4.alloc (.cells #[.int .i64 c'.ru, .int .i64 c'.le, .int .i64 c'.re, .int .i64 c'.att, .int .i64 c'.wi, .int .i64 c'.qu, .int .i64 c'.bl, .int .i64 c'.ev, .int .i64 c'.ha] 23)).cell? ⟨w.heap.size, 1, none⟩ = some (.int .i64 0) := HX4a.out.cell (j := 1) rfl; have x2 : (w4.alloc (.cells #[.int .i64 c'.ru, .int .i64 c'.le, .int .i64 c'.re, .int .i64 c'.att, .int .i64 c'.wi, .int .i64 c'.qu, .int .i64 c'.bl, .int .i64 c'.ev, .int .i64 c'.ha] 23)).cell? ⟨w.heap.size, 2, none⟩ = some (.int .i64 0) := HX4a.out.cell (j := 2) rfl; have x3 : (w4.alloc (.cells #[.int .i64 c'.ru, .int .i64 c'.le, .int .i64 c'.re, .int .i64 c'.att, .int .i64 c'.wi, .int .i64 c'.qu, .int .i64 c'.bl, .int .i64 c'.ev, .int .i64 c'.ha] 23)).cell? ⟨w.heap.size, 3, none⟩ = some (.int .i64 0) := HX4a.out.cell (j := 3) rfl; have x4 : (w4.alloc (.cells #[.int .i64 c'.ru, .int .i64 c'.le, .int .i64 c'.re, .int .i64 c'.att, .int .i64 c'.wi, .int .i64 c'.qu, .int .i64 c'.bl, .int .i64 c'.ev, .int .i64 c'.ha] 23)).cell? ⟨w.heap.size, 4, none⟩ = some (.int .i64 0) := HX4a.out.cell (j := 4) rfl; have x5 : (w4.alloc (.cells #[.int .i64 c'.ru, .int .i64 c'.le, .int .i64 c'.re, .int .i64 c'.att, .int .i64 c'.wi, .int .i64 c'.qu, .int .i64 c'.bl, .int .i64 c'.ev, .int .i64 c'.ha] 23)).cell? ⟨w.heap.size, 5, none⟩ = some (.int .i64 0) := HX4a.out.cell (j := 5) rfl; have x6 : (w4.alloc (.cells #[.int .i64 c'.ru, .int .i64 c'.le, .int .i64 c'.re, .int .i64 c'.att, .int .i64 c'.wi, .int .i64 c'.qu, .int .i64 c'.bl, .int .i64 c'.ev, .int .i64 c'.ha] 23)).cell? ⟨w.heap.size, 6, none⟩ = some (.int .i64 0) := HX4a.out.cell (j := 6) rfl; have x7 : (w4.alloc (.cells #[.int .i64 c'.ru, .int .i64 c'.le, .int .i64 c'.re, .int .i64 c'.att, .int .i64 c'.wi, .int .i64 c'.qu, .int .i64 c'.bl, .int .i64 c'.ev, .int .i64 c'.ha] 23)).cell? ⟨w.heap.size, 7, none⟩ = some (.int .i64 0) := HX4a.out.cell (j := 7) rfl; have x8 : (w4.alloc (.cells #[.int .i64 c'.ru, .int .i64 c'.le, .int .i64 c'.re, .int .i64 c'.att, .int .i64 c'.wi, .int .i64 c'.qu, .int .i64 c'.bl, .int .i64 c'.ev, .int .i64 c'.ha] 23)).cell? ⟨w.heap.size, 8, none⟩ = some (.int .i64 0) := HX4a.out.cell (j := 8) rfl; have xz0 := HX4a.out.fz 0; have xz1 := HX4a.out.fz 1; have xz2 := HX4a.out.fz 2; have xz3 := HX4a.out.fz 3; have xz4 := HX4a.out.fz 4; have xz5 := HX4a.out.fz 5; have xz6 := HX4a.out.fz 6; have xz7 := HX4a.out.fz 7; have xz8 := HX4a.out.fz 8; clear hb4))
        first | rw [Exit.noGoto_ret] | (simp only [Exit.noGoto_ret])
        exact ret_cfg4 (c := cfg0) rfl rfl rfl rfl rfl (set9_cells (HX4.out.alloc _)) rfl (HOUT.out none 0 cfg0 [] 230 1 _ _ (by first | exact hwi | rfl | decide) HE0.out (rowT_nil _ _) (set9_below (HB4.out.alloc HB4.out.size _) (Nat.le_refl _)))
      | some d =>
        have KH : Hid (∀ W, AllAt W → Calls Tryz.prog 29 #[.string (strOf S1)] W fun e w' => e = .returned (.tuple #[.agg #[.int .i64 d.ru, .int .i64 d.le, .int .i64 d.re, .int .i64 d.att, .int .i64 d.wi, .int .i64 d.qu, .int .i64 d.bl, .int .i64 d.ev, .int .i64 d.ha], .bool true]) ∧ Below W.heap.size W w') := Lib.hid fun W hW => by
          have k := shead_any S1 HL1.out W hW
          rw [hrh] at k
          refine k.mono ?_
          rintro e w' ⟨⟨c', he, hc'⟩, hb⟩
          rw [hc' d rfl] at he
          exact ⟨he, hb⟩
        cases en with
        | false =>
          have HE0 : Hid (PS = (230, 1, cfg0, [])) := Lib.hid (HPL.out.trans (by rw [parseSY, if_neg hbb, if_pos rfl, hrh]; rfl))
          clear hbb hgo hcut l1 l2 l3 hy hs1 kc HL3 hs4 hrh
          generalize strOf S1 = SS at *
          generalize strOf R = SR at *
          generalize strOf T = ST at *
          generalize acc.length = nacc at *
          go_wp2_with (first | (go_at_call 28; refine (KC.out _).mono ?_; rintro _ w3 ⟨rfl, hb3⟩; have HX3 := Lib.hid (HXR.out.keep hb3); have HC3 := Lib.hid (HCR.out.keep hb3); have HR3 := Lib.hid (HRR.out.keep hb3); have HB3 := Lib.hid (grow_to HBR.out hb3); clear hb3) | (go_at_call 29; refine (KH.out _ (HA.out _ HB3.out).all).mono ?_; rintro _ w4 ⟨rfl, hb4⟩; have HX4 := Lib.hid (HX3.out.keep hb4); have HB4 := Lib.hid (grow_to HB3.out hb4); have HX4a : Hid (Cells (w4.alloc (.cells #[.int .i64 d.ru, .int .i64 d.le, .int .i64 d.re, .int .i64 d.att, .int .i64 d.wi, .int .i64 d.qu, .int .i64 d.bl, .int .i64 d.ev, .int .i64 d.ha] 23)) w.heap.size 23 #[.int .i64 0, .int .i64 0, .int .i64 0, .int .i64 0, .int .i64 0, .int .i64 0, .int .i64 0, .int .i64 0, .int .i64 0]) := Lib.hid (HX4.out.alloc (.cells #[.int .i64 d.ru, .int .i64 d.le, .int .i64 d.re, .int .i64 d.att, .int .i64 d.wi, .int .i64 d.qu, .int .i64 d.bl, .int .i64 d.ev, .int .i64 d.ha] 23)); have x0 : (w4.alloc (.cells #[.int .i64 d.ru, .int .i64 d.le, .int .i64 d.re, .int .i64 d.att, .int .i64 d.wi, .int .i64 d.qu, .int .i64 d.bl, .int .i64 d.ev, .int .i64 d.ha] 23)).cell? ⟨w.heap.size, 0, none⟩ = some (.int .i64 0) := HX4a.out.cell (j := 0) rfl; have x1 : (w4.alloc (.cells #[.int .i64 d.ru, .int .i64 d.le, .int .i64 d.re, .int .i64 d.att, .int .i64 d.wi, .int .i64 d.qu, .int .i64 d.bl, .int .i64 d.ev, .int .i64 d.ha] 23)).cell? ⟨w.heap.size, 1, none⟩ = some (.int .i64 0) := HX4a.out.cell (j := 1) rfl; have x2 : (w4.alloc (.cells #[.int .i64 d.ru, .int .i64 d.le, .int .i64 d.re, .int .i64 d.att, .int .i64 d.wi, .int .i64 d.qu, .int .i64 d.bl, .int .i64 d.ev, .int .i64 d.ha] 23)).cell? ⟨w.heap.size, 2, none⟩ = some (.int .i64 0) := HX4a.out.cell (j := 2) rfl; have x3 : (w4.alloc (.cells #[.int .i64 d.ru, .int .i64 d.le, .int .i64 d.re, .int .i64 d.att, .int .i64 d.wi, .int .i64 d.qu, .int .i64 d.bl, .int .i64 d.ev, .int .i64 d.ha] 23)).cell? ⟨w.heap.size, 3, none⟩ = some (.int .i64 0) := HX4a.out.cell (j := 3) rfl; have x4 : (w4.alloc (.cells #[.int .i64 d.ru, .int .i64 d.le, .int .i64 d.re, .int .i64 d.att, .int .i64 d.wi, .int .i64 d.qu, .int .i64 d.bl, .int .i64 d.ev, .int .i64 d.ha] 23)).cell? ⟨w.heap.size, 4, none⟩ = some (.int .i64 0) := HX4a.out.cell (j := 4) rfl; have x5 : (w4.alloc (.cells #[.int .i64 d.ru, .int .i64 d.le, .int .i64 d.re, .int .i64 d.att, .int .i64 d.wi, .int .i64 d.qu, .int .i64 d.bl, .int .i64 d.ev, .int .i64 d.ha] 23)).cell? ⟨w.heap.size, 5, none⟩ = some (.int .i64 0) := HX4a.out.cell (j := 5) rfl; have x6 : (w4.alloc (.cells #[.int .i64 d.ru, .int .i64 d.le, .int .i64 d.re, .int .i64 d.att, .int .i64 d.wi, .int .i64 d.qu, .int .i64 d.bl, .int .i64 d.ev, .int .i64 d.ha] 23)).cell? ⟨w.heap.size, 6, none⟩ = some (.int .i64 0) := HX4a.out.cell (j := 6) rfl; have x7 : (w4.alloc (.cells #[.int .i64 d.ru, .int .i64 d.le, .int .i64 d.re, .int .i64 d.att, .int .i64 d.wi, .int .i64 d.qu, .int .i64 d.bl, .int .i64 d.ev, .int .i64 d.ha] 23)).cell? ⟨w.heap.size, 7, none⟩ = some (.int .i64 0) := HX4a.out.cell (j := 7) rfl; have x8 : (w4.alloc (.cells #[.int .i64 d.ru, .int .i64 d.le, .int .i64 d.re, .int .i64 d.att, .int .i64 d.wi, .int .i64 d.qu, .int .i64 d.bl, .int .i64 d.ev, .int .i64 d.ha] 23)).cell? ⟨w.heap.size, 8, none⟩ = some (.int .i64 0) := HX4a.out.cell (j := 8) rfl; have xz0 := HX4a.out.fz 0; have xz1 := HX4a.out.fz 1; have xz2 := HX4a.out.fz 2; have xz3 := HX4a.out.fz 3; have xz4 := HX4a.out.fz 4; have xz5 := HX4a.out.fz 5; have xz6 := HX4a.out.fz 6; have xz7 := HX4a.out.fz 7; have xz8 := HX4a.out.fz 8; clear hb4))
          first | rw [Exit.noGoto_ret] | (simp only [Exit.noGoto_ret])
          exact ret_cfg4 (c := cfg0) rfl rfl rfl rfl rfl (set9_cells (HX4.out.alloc _)) rfl (HOUT.out none 0 cfg0 [] 230 1 _ _ (by first | exact hwi | rfl | decide) HE0.out (rowT_nil _ _) (set9_below (HB4.out.alloc HB4.out.size _) (Nat.le_refl _)))
        | true =>
          have HE0 : Hid (PS = parseSY (leftY 1 R) (1 + 1) d acc) := Lib.hid (HPL.out.trans (by rw [parseSY, if_neg hbb, if_pos rfl, hrh]; rfl))
          clear hbb hgo hcut l1 l2 l3 hy hs1 kc hs4 hrh
          generalize strOf S1 = SS at *
          obtain ⟨SR, hSR⟩ : ∃ SR, strOf R = SR := ⟨_, rfl⟩
          have HSR := Lib.hid hSR
          rw [hSR] at KC
          obtain ⟨ST, hST⟩ : ∃ ST, strOf T = ST := ⟨_, rfl⟩
          have HST := Lib.hid hST
          rw [hST] at KC ⊢
          clear hSR hST
          go_upto_region 14 with (first | (go_at_call 28; refine (KC.out _).mono ?_; rintro _ w3 ⟨rfl, hb3⟩; have HX3 := Lib.hid (HXR.out.keep hb3); have HC3 := Lib.hid (HCR.out.keep hb3); have HR3 := Lib.hid (HRR.out.keep hb3); have HB3 := Lib.hid (grow_to HBR.out hb3); clear hb3) | (go_at_call 29; refine (KH.out _ (HA.out _ HB3.out).all).mono ?_; rintro _ w4 ⟨rfl, hb4⟩; have HX4 := Lib.hid (HX3.out.keep hb4); have HC4 := Lib.hid (HC3.out.keep hb4); have HR4 := Lib.hid (HR3.out.keep hb4); have HB4 := Lib.hid (grow_to HB3.out hb4); clear hb4))
          have HD5 := Lib.hid (Cells.new w4 23 #[.int .i64 d.ru, .int .i64 d.le, .int .i64 d.re, .int .i64 d.att, .int .i64 d.wi, .int .i64 d.qu, .int .i64 d.bl, .int .i64 d.ev, .int .i64 d.ha])
          have HX5 := Lib.hid (HX4.out.alloc (.cells #[.int .i64 d.ru, .int .i64 d.le, .int .i64 d.re, .int .i64 d.att, .int .i64 d.wi, .int .i64 d.qu, .int .i64 d.bl, .int .i64 d.ev, .int .i64 d.ha] 23))
          have HC5 := Lib.hid (HC4.out.alloc (.cells #[.int .i64 d.ru, .int .i64 d.le, .int .i64 d.re, .int .i64 d.att, .int .i64 d.wi, .int .i64 d.qu, .int .i64 d.bl, .int .i64 d.ev, .int .i64 d.ha] 23))
          have HR5 := Lib.hid (HR4.out.keep ((Below.refl w4.heap.size w4).alloc (Nat.le_refl _) (.cells #[.int .i64 d.ru, .int .i64 d.le, .int .i64 d.re, .int .i64 d.att, .int .i64 d.wi, .int .i64 d.qu, .int .i64 d.bl, .int .i64 d.ev, .int .i64 d.ha] 23)))
          have HB5 := Lib.hid (HB4.out.alloc HB4.out.size (.cells #[.int .i64 d.ru, .int .i64 d.le, .int .i64 d.re, .int .i64 d.att, .int .i64 d.wi, .int .i64 d.qu, .int .i64 d.bl, .int .i64 d.ev, .int .i64 d.ha] 23))
          clear HX3 HC3 HR3 HB3 HX4 HC4 HR4 HB4 KH KC HXR HCR HRR HBR
          generalize w4.alloc (.cells #[.int .i64 d.ru, .int .i64 d.le, .int .i64 d.re, .int .i64 d.att, .int .i64 d.wi, .int .i64 d.qu, .int .i64 d.bl, .int .i64 d.ev, .int .i64 d.ha] 23) = w5 at *
          generalize w4.heap.size = DB at *
          clear w4 w3
          have d0 : w5.cell? ⟨DB, 0, none⟩ = some (.int .i64 d.ru) := HD5.out.cell (j := 0) rfl
          have d1 : w5.cell? ⟨DB, 1, none⟩ = some (.int .i64 d.le) := HD5.out.cell (j := 1) rfl
          have d2 : w5.cell? ⟨DB, 2, none⟩ = some (.int .i64 d.re) := HD5.out.cell (j := 2) rfl
          have d3 : w5.cell? ⟨DB, 3, none⟩ = some (.int .i64 d.att) := HD5.out.cell (j := 3) rfl
          have d4 : w5.cell? ⟨DB, 4, none⟩ = some (.int .i64 d.wi) := HD5.out.cell (j := 4) rfl
          have d5 : w5.cell? ⟨DB, 5, none⟩ = some (.int .i64 d.qu) := HD5.out.cell (j := 5) rfl
          have d6 : w5.cell? ⟨DB, 6, none⟩ = some (.int .i64 d.bl) := HD5.out.cell (j := 6) rfl
          have d7 : w5.cell? ⟨DB, 7, none⟩ = some (.int .i64 d.ev) := HD5.out.cell (j := 7) rfl
          have d8 : w5.cell? ⟨DB, 8, none⟩ = some (.int .i64 d.ha) := HD5.out.cell (j := 8) rfl
          have k0 : w5.cell? ⟨CB, 0, none⟩ = some (.int .i64 c.ru) := HC5.out.cell (j := 0) rfl
          have k1 : w5.cell? ⟨CB, 1, none⟩ = some (.int .i64 c.le) := HC5.out.cell (j := 1) rfl
          have k2 : w5.cell? ⟨CB, 2, none⟩ = some (.int .i64 c.re) := HC5.out.cell (j := 2) rfl
          have k3 : w5.cell? ⟨CB, 3, none⟩ = some (.int .i64 c.att) := HC5.out.cell (j := 3) rfl
          have k4 : w5.cell? ⟨CB, 4, none⟩ = some (.int .i64 c.wi) := HC5.out.cell (j := 4) rfl
          have k5 : w5.cell? ⟨CB, 5, none⟩ = some (.int .i64 c.qu) := HC5.out.cell (j := 5) rfl
          have k6 : w5.cell? ⟨CB, 6, none⟩ = some (.int .i64 c.bl) := HC5.out.cell (j := 6) rfl
          have k7 : w5.cell? ⟨CB, 7, none⟩ = some (.int .i64 c.ev) := HC5.out.cell (j := 7) rfl
          have k8 : w5.cell? ⟨CB, 8, none⟩ = some (.int .i64 c.ha) := HC5.out.cell (j := 8) rfl
          have kz0 := HC5.out.fz 0
          have kz1 := HC5.out.fz 1
          have kz2 := HC5.out.fz 2
          have kz3 := HC5.out.fz 3
          have kz4 := HC5.out.fz 4
          have kz5 := HC5.out.fz 5
          have kz6 := HC5.out.fz 6
          have kz7 := HC5.out.fz 7
          have kz8 := HC5.out.fz 8
          go_wp2
          exact ⟨⟨1, R, A, cap, acc, d, by rw [HSR.out], rfl, rfl, by first | rfl | simp, HL2.out, HL3.out.1, HACC.out, HR5.out.below9 HC5.out (by decide), HX5.out.far9 (Nat.ne_of_lt HGC.out), set9_cells HC5.out, set9_below HB5.out (Nat.le_of_lt HGC.out), HE0.out⟩, by have := HL3.out.2; rw [← HSR.out, ← HST.out]; simpa [intOf] using this⟩
    · have t0 : ((at_ : Int) == 0) = false := by rw [beq_eq_false_iff_ne]; omega
      have t0' : ((strOf T).toList == []) = false := by rw [str_toList, beq_eq_false_iff_ne]; exact hgo.resolve_left (by omega)
      have tw : (((at_ + 1 : Nat) : Int) == 1) = false := by rw [beq_eq_false_iff_ne]; omega
      have HAL : Hid (at_ + 1 ≠ 1) := Lib.hid (by omega)
      have KR0 : Hid (∀ W, LibAt W → Calls Tryz.prog 30 #[.string (strOf S1)] W fun e w' => (∃ x : Stp, e = .returned (.tuple #[.agg #[.int .i64 x.kind, .int .i64 x.a, .int .i64 x.k, .int .i64 x.x, .string x.str], .bool (readStp S1).isSome]) ∧ ∀ y, readStp S1 = some y → x = y) ∧ Below W.heap.size W w') := Lib.hid fun W hW => sread_any S1 hs4 W hW
      cases hrs : readStp S1 with
      | none =>
        rw [hrs] at KR0
        have HE0 : Hid (PS = (231, at_ + 1, cfg0, [])) := Lib.hid (HPL.out.trans (by rw [parseSY, if_neg hbb, if_neg HAL.out, hrs]))
        clear hbb hgo hcut l1 l2 l3 hy hs1 kc HL3 hs4 hrs hpos
        generalize strOf S1 = SS at *
        generalize strOf R = SR at *
        generalize strOf T = ST at *
        generalize acc.length = nacc at *
        go_wp2_with (first | (go_at_call 28; refine (KC.out _).mono ?_; rintro _ w3 ⟨rfl, hb3⟩; have HX3 := Lib.hid (HXR.out.keep hb3); have HC3 := Lib.hid (HCR.out.keep hb3); have HR3 := Lib.hid (HRR.out.keep hb3); have HB3 := Lib.hid (grow_to HBR.out hb3); clear hb3) | (go_at_call 30; refine (KR0.out _ (HA.out _ HB3.out)).mono ?_; rintro _ w4 ⟨⟨x, rfl, _⟩, hb4⟩; have HX4 := Lib.hid (HX3.out.keep hb4); have HB4 := Lib.hid (grow_to HB3.out hb4); have HX4a : Hid (Cells (w4.alloc (.cells #[.int .i64 x.kind, .int .i64 x.a, .int .i64 x.k, .int .i64 x.x, .string x.str] 34)) w.heap.size 23 #[.int .i64 0, .int .i64 0, .int .i64 0, .int .i64 0, .int .i64 0, .int .i64 0, .int .i64 0, .int .i64 0, .int .i64 0]) := Lib.hid (HX4.out.alloc (.cells #[.int .i64 x.kind, .int .i64 x.a, .int .i64 x.k, .int .i64 x.x, .string x.str] 34)); have x0 : (w4.alloc (.cells #[.int .i64 x.kind, .int .i64 x.a, .int .i64 x.k, .int .i64 x.x, .string x.str] 34)).cell? ⟨w.heap.size, 0, none⟩ = some (.int .i64 0) := HX4a.out.cell (j := 0) rfl; have x1 : (w4.alloc (.cells #[.int .i64 x.kind, .int .i64 x.a, .int .i64 x.k, .int .i64 x.x, .string x.str] 34)).cell? ⟨w.heap.size, 1, none⟩ = some (.int .i64 0) := HX4a.out.cell (j := 1) rfl; have x2 : (w4.alloc (.cells #[.int .i64 x.kind, .int .i64 x.a, .int .i64 x.k, .int .i64 x.x, .string x.str] 34)).cell? ⟨w.heap.size, 2, none⟩ = some (.int .i64 0) := HX4a.out.cell (j := 2) rfl; have x3 : (w4.alloc (.cells #[.int .i64 x.kind, .int .i64 x.a, .int .i64 x.k, .int .i64 x.x, .string x.str] 34)).cell? ⟨w.heap.size, 3, none⟩ = some (.int .i64 0) := HX4a.out.cell (j := 3) rfl; have x4 : (w4.alloc (.cells #[.int .i64 x.kind, .int .i64 x.a, .int .i64 x.k, .int .i64 x.x, .string x.str] 34)).cell? ⟨w.heap.size, 4, none⟩ = some (.int .i64 0) := HX4a.out.cell (j := 4) rfl; have x5 : (w4.alloc (.cells #[.int .i64 x.kind, .int .i64 x.a, .int .i64 x.k, .int .i64 x.x, .string x.str] 34)).cell? ⟨w.heap.size, 5, none⟩ = some (.int .i64 0) := HX4a.out.cell (j := 5) rfl; have x6 : (w4.alloc (.cells #[.int .i64 x.kind, .int .i64 x.a, .int .i64 x.k, .int .i64 x.x, .string x.str] 34)).cell? ⟨w.heap.size, 6, none⟩ = some (.int .i64 0) := HX4a.out.cell (j := 6) rfl; have x7 : (w4.alloc (.cells #[.int .i64 x.kind, .int .i64 x.a, .int .i64 x.k, .int .i64 x.x, .string x.str] 34)).cell? ⟨w.heap.size, 7, none⟩ = some (.int .i64 0) := HX4a.out.cell (j := 7) rfl; have x8 : (w4.alloc (.cells #[.int .i64 x.kind, .int .i64 x.a, .int .i64 x.k, .int .i64 x.x, .string x.str] 34)).cell? ⟨w.heap.size, 8, none⟩ = some (.int .i64 0) := HX4a.out.cell (j := 8) rfl; have xz0 := HX4a.out.fz 0; have xz1 := HX4a.out.fz 1; have xz2 := HX4a.out.fz 2; have xz3 := HX4a.out.fz 3; have xz4 := HX4a.out.fz 4; have xz5 := HX4a.out.fz 5; have xz6 := HX4a.out.fz 6; have xz7 := HX4a.out.fz 7; have xz8 := HX4a.out.fz 8; clear hb4))
        first | rw [Exit.noGoto_ret] | (simp only [Exit.noGoto_ret])
        exact ret_cfg4 (c := cfg0) rfl rfl rfl rfl rfl (set9_cells (HX4.out.alloc _)) rfl (HOUT.out none 0 cfg0 [] 231 (at_ + 1) _ _ (by first | exact hwi | rfl | decide) HE0.out (rowT_nil _ _) (set9_below (HB4.out.alloc HB4.out.size _) (Nat.le_refl _)))
      | some x =>
        rw [hrs] at KR0
        have KR : Hid (∀ W, LibAt W → Calls Tryz.prog 30 #[.string (strOf S1)] W fun e w' => e = .returned (.tuple #[.agg #[.int .i64 x.kind, .int .i64 x.a, .int .i64 x.k, .int .i64 x.x, .string x.str], .bool true]) ∧ Below W.heap.size W w') := Lib.hid fun W hW => by
          refine (KR0.out W hW).mono ?_
          rintro e w' ⟨⟨x', he, hx'⟩, hb⟩
          rw [hx' x rfl] at he
          exact ⟨he, hb⟩
        clear KR0
        cases en with
        | false =>
          have HE0 : Hid (PS = (231, at_ + 1, cfg0, [])) := Lib.hid (HPL.out.trans (by rw [parseSY, if_neg hbb, if_neg HAL.out, hrs]; rfl))
          clear hbb hgo hcut l1 l2 l3 hy hs1 kc HL3 hs4 hrs hpos
          generalize strOf S1 = SS at *
          generalize strOf R = SR at *
          generalize strOf T = ST at *
          generalize acc.length = nacc at *
          go_wp2_with (first | (go_at_call 28; refine (KC.out _).mono ?_; rintro _ w3 ⟨rfl, hb3⟩; have HX3 := Lib.hid (HXR.out.keep hb3); have HC3 := Lib.hid (HCR.out.keep hb3); have HR3 := Lib.hid (HRR.out.keep hb3); have HB3 := Lib.hid (grow_to HBR.out hb3); clear hb3) | (go_at_call 30; refine (KR.out _ (HA.out _ HB3.out)).mono ?_; rintro _ w4 ⟨rfl, hb4⟩; have HX4 := Lib.hid (HX3.out.keep hb4); have HB4 := Lib.hid (grow_to HB3.out hb4); have HX4a : Hid (Cells (w4.alloc (.cells #[.int .i64 x.kind, .int .i64 x.a, .int .i64 x.k, .int .i64 x.x, .string x.str] 34)) w.heap.size 23 #[.int .i64 0, .int .i64 0, .int .i64 0, .int .i64 0, .int .i64 0, .int .i64 0, .int .i64 0, .int .i64 0, .int .i64 0]) := Lib.hid (HX4.out.alloc (.cells #[.int .i64 x.kind, .int .i64 x.a, .int .i64 x.k, .int .i64 x.x, .string x.str] 34)); have x0 : (w4.alloc (.cells #[.int .i64 x.kind, .int .i64 x.a, .int .i64 x.k, .int .i64 x.x, .string x.str] 34)).cell? ⟨w.heap.size, 0, none⟩ = some (.int .i64 0) := HX4a.out.cell (j := 0) rfl; have x1 : (w4.alloc (.cells #[.int .i64 x.kind, .int .i64 x.a, .int .i64 x.k, .int .i64 x.x, .string x.str] 34)).cell? ⟨w.heap.size, 1, none⟩ = some (.int .i64 0) := HX4a.out.cell (j := 1) rfl; have x2 : (w4.alloc (.cells #[.int .i64 x.kind, .int .i64 x.a, .int .i64 x.k, .int .i64 x.x, .string x.str] 34)).cell? ⟨w.heap.size, 2, none⟩ = some (.int .i64 0) := HX4a.out.cell (j := 2) rfl; have x3 : (w4.alloc (.cells #[.int .i64 x.kind, .int .i64 x.a, .int .i64 x.k, .int .i64 x.x, .string x.str] 34)).cell? ⟨w.heap.size, 3, none⟩ = some (.int .i64 0) := HX4a.out.cell (j := 3) rfl; have x4 : (w4.alloc (.cells #[.int .i64 x.kind, .int .i64 x.a, .int .i64 x.k, .int .i64 x.x, .string x.str] 34)).cell? ⟨w.heap.size, 4, none⟩ = some (.int .i64 0) := HX4a.out.cell (j := 4) rfl; have x5 : (w4.alloc (.cells #[.int .i64 x.kind, .int .i64 x.a, .int .i64 x.k, .int .i64 x.x, .string x.str] 34)).cell? ⟨w.heap.size, 5, none⟩ = some (.int .i64 0) := HX4a.out.cell (j := 5) rfl; have x6 : (w4.alloc (.cells #[.int .i64 x.kind, .int .i64 x.a, .int .i64 x.k, .int .i64 x.x, .string x.str] 34)).cell? ⟨w.heap.size, 6, none⟩ = some (.int .i64 0) := HX4a.out.cell (j := 6) rfl; have x7 : (w4.alloc (.cells #[.int .i64 x.kind, .int .i64 x.a, .int .i64 x.k, .int .i64 x.x, .string x.str] 34)).cell? ⟨w.heap.size, 7, none⟩ = some (.int .i64 0) := HX4a.out.cell (j := 7) rfl; have x8 : (w4.alloc (.cells #[.int .i64 x.kind, .int .i64 x.a, .int .i64 x.k, .int .i64 x.x, .string x.str] 34)).cell? ⟨w.heap.size, 8, none⟩ = some (.int .i64 0) := HX4a.out.cell (j := 8) rfl; have xz0 := HX4a.out.fz 0; have xz1 := HX4a.out.fz 1; have xz2 := HX4a.out.fz 2; have xz3 := HX4a.out.fz 3; have xz4 := HX4a.out.fz 4; have xz5 := HX4a.out.fz 5; have xz6 := HX4a.out.fz 6; have xz7 := HX4a.out.fz 7; have xz8 := HX4a.out.fz 8; clear hb4))
          first | rw [Exit.noGoto_ret] | (simp only [Exit.noGoto_ret])
          exact ret_cfg4 (c := cfg0) rfl rfl rfl rfl rfl (set9_cells (HX4.out.alloc _)) rfl (HOUT.out none 0 cfg0 [] 231 (at_ + 1) _ _ (by first | exact hwi | rfl | decide) HE0.out (rowT_nil _ _) (set9_below (HB4.out.alloc HB4.out.size _) (Nat.le_refl _)))
        | true =>
          have HE0 : Hid (PS = parseSY (leftY (at_ + 1) R) (at_ + 1 + 1) c (acc ++ [x])) := Lib.hid (HPL.out.trans (by rw [parseSY, if_neg hbb, if_neg HAL.out, hrs]; rfl))
          have HACL : Hid (acc.length < 1073741824) := Lib.hid (by have := HAC2.out; omega)
          clear hbb hgo hcut l1 l2 l3 hy hs1 kc hs4 hrs hpos
          generalize strOf S1 = SS at *
          obtain ⟨SR, hSR⟩ : ∃ SR, strOf R = SR := ⟨_, rfl⟩
          have HSR := Lib.hid hSR
          rw [hSR] at KC
          obtain ⟨ST, hST⟩ : ∃ ST, strOf T = ST := ⟨_, rfl⟩
          have HST := Lib.hid hST
          rw [hST] at KC t0' ⊢
          have HSX : Hid (stpVals x = [.int .i64 x.kind, .int .i64 x.a, .int .i64 x.k, .int .i64 x.x, .string x.str]) := Lib.hid rfl
          clear hSR hST
          generalize x.kind = xd at *; generalize x.a = xa at *; generalize x.k = xk at *; generalize x.x = xx at *; generalize x.str = XT at *
          go_upto_region 18 with (first | (go_at_call 28; refine (KC.out _).mono ?_; rintro _ w3 ⟨rfl, hb3⟩; have HX3 := Lib.hid (HXR.out.keep hb3); have HC3 := Lib.hid (HCR.out.keep hb3); have HR3 := Lib.hid (HRR.out.keep hb3); have HB3 := Lib.hid (grow_to HBR.out hb3); clear hb3) | (go_at_call 30; refine (KR.out _ (HA.out _ HB3.out)).mono ?_; rintro _ w4 ⟨rfl, hb4⟩; have HX4 := Lib.hid (HX3.out.keep hb4); have HC4 := Lib.hid (HC3.out.keep hb4); have HR4 := Lib.hid (HR3.out.keep hb4); have HB4 := Lib.hid (grow_to HB3.out hb4); clear hb4))
          have HD5 := Lib.hid (Cells.new w4 34 #[.int .i64 xd, .int .i64 xa, .int .i64 xk, .int .i64 xx, .string XT])
          have HX5 := Lib.hid (HX4.out.alloc (.cells #[.int .i64 xd, .int .i64 xa, .int .i64 xk, .int .i64 xx, .string XT] 34))
          have HC5 := Lib.hid (HC4.out.alloc (.cells #[.int .i64 xd, .int .i64 xa, .int .i64 xk, .int .i64 xx, .string XT] 34))
          have HR5 : Hid (RowT (w4.alloc (.cells #[.int .i64 xd, .int .i64 xa, .int .i64 xk, .int .i64 xx, .string XT] 34)) w.heap.size (.slice A acc.length cap) acc) := Lib.hid (HR4.out.keep ((Below.refl w4.heap.size w4).alloc (Nat.le_refl _) (.cells #[.int .i64 xd, .int .i64 xa, .int .i64 xk, .int .i64 xx, .string XT] 34)))
          have HB5 := Lib.hid (HB4.out.alloc HB4.out.size (.cells #[.int .i64 xd, .int .i64 xa, .int .i64 xk, .int .i64 xx, .string XT] 34))
          clear HX3 HC3 HR3 HB3 HX4 HC4 HR4 HB4 KR KC HXR HCR HRR HBR
          generalize w4.alloc (.cells #[.int .i64 xd, .int .i64 xa, .int .i64 xk, .int .i64 xx, .string XT] 34) = w5 at *
          generalize w4.heap.size = DB at *
          clear w4 w3
          have s0 : w5.cell? ⟨DB, 0, none⟩ = some (.int .i64 xd) := HD5.out.cell (j := 0) rfl
          have s1 : w5.cell? ⟨DB, 1, none⟩ = some (.int .i64 xa) := HD5.out.cell (j := 1) rfl
          have s2 : w5.cell? ⟨DB, 2, none⟩ = some (.int .i64 xk) := HD5.out.cell (j := 2) rfl
          have s3 : w5.cell? ⟨DB, 3, none⟩ = some (.int .i64 xx) := HD5.out.cell (j := 3) rfl
          have s4 : w5.cell? ⟨DB, 4, none⟩ = some (.string XT) := HD5.out.cell (j := 4) rfl
          go_wp2_with (at_builtin; go_loud (refine wpList_append_elem' rfl _ _ _ rfl w.heap.size 34 i0 _ 5 48 Tryz.underlying24 hi0 hz0 hz1 hz2 rfl (by decide) (.slice A acc.length cap) acc.length (acc.flatMap stpVals) rfl (show w5.ownsRow w.heap.size 34 5 (.slice A acc.length cap) acc.length (acc.flatMap stpVals) from HR5.out) #[.int .i64 xd, .int .i64 xa, .int .i64 xk, .int .i64 xx, .string XT] rfl (by simp [Value.oneCell']) _ rfl rfl HACL.out (by decide) HB5.out.size ?_); intro v' w9 hown hgrow hat; obtain ⟨g', cap', rfl⟩ := ownsRow_succ hown; have HX9 := Lib.hid (HX5.out.grown hgrow (fun e => HR5.out.ne HX5.out (by decide) _ e.symm rfl)); have HC9 := Lib.hid (HC5.out.grown hgrow (fun e => HR5.out.ne HC5.out (by decide) _ e.symm rfl)); have HW9 : Hid (RowT w9 w.heap.size (.slice (some ⟨g', 0, none⟩) (acc.length + 1) cap') (acc ++ [x])) := Lib.hid (rowT_snoc (by rw [HSX.out]; exact hown)); have HB9 := Lib.hid (HB5.out.grown hgrow HB5.out.size (fun k hk => (World.ownsRow.lt HR5.out k hk).1)); clear hown hgrow hat)
          exact ⟨⟨at_ + 1, R, some ⟨g', 0, none⟩, cap', acc ++ [x], c, by rw [HSR.out], by simp, rfl, by first | rfl | simp, HL2.out, HL3.out.1, by have := HAC2.out; simp; omega, by simpa using HW9.out, HX9.out, HC9.out, HB9.out, HE0.out⟩, by have := HL3.out.2; rw [← HSR.out, ← HST.out]; simpa [intOf] using this⟩

end Go.Proofs.YtdkencepmdfacaaGreatDoor
