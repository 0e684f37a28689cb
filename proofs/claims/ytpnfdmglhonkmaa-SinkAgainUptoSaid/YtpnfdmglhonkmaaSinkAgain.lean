/- SinkAgain: what was put may be put again: nothing changes. Condition: the arguments are of bulk at most 1048576. -/
import Derived.StillTailTactics
import Derived.BigQuiet
import Derived.Test.YtpnfdmglhonkmaaTwo
import Derived.Test.YtpnfdmglhonkmaaInts
set_option maxRecDepth 100000
namespace Go.Proofs.Ytpnfdmglhonkmaa.sinkAgain
open Go.RowKit Go.WideShapes Go.ChangeShapes Go.ChangeAt Go.Maps
open Go.ChangeMaps (open_string shut_string)

/-! ### The plain law -/
theorem again_same {s : Snk} {j b : Int} {l : List ByteArray} (ha : s.art j = some ⟨b, l⟩) {index : Int} (hi : index < 1 + (l.length : Int)) (text : ByteArray) : s.new j b index text = false := by
  refine decide_eq_false fun h => h.2 ?_
  have : s.count j b = 1 + l.length := by unfold Snk.count; rw [ha]; exact if_pos rfl
  rw [this]
  omega
theorem again_less {s : Snk} {j b badge : Int} {l : List ByteArray} (ha : s.art j = some ⟨b, l⟩) (hb : badge < b) (index : Int) (text : ByteArray) : s.new j badge index text = false := by
  refine decide_eq_false fun h => ?_
  have hs : s.badge j = b := by unfold Snk.badge; rw [ha]
  have := h.1
  unfold Snk.err at this
  rw [hs] at this
  split at this
  · simp at this
  split at this
  · simp at this
  rw [if_pos (.inr (.inr hb))] at this
  simp at this
theorem again_zero {s : Snk} {index : Int} (hi : index < 0) (j badge : Int) (text : ByteArray) : s.new j badge index text = false := by
  refine decide_eq_false fun h => ?_
  have := h.1
  unfold Snk.err at this
  split at this
  · simp at this
  split at this
  · simp at this
  split at this
  · simp at this
  rw [if_pos (.inl hi)] at this
  simp at this

/-- the sink behind the puts, told -/
def told (l : List SOp) : Snk := { Snk.none.ops l with news := [] }

/-- what the second loop keeps -/
structure St (w0 w : World) (g bm : Nat) (nv : Value) (s : Snk) (b : Nat) (v : Value) (L : List AE) : Prop where
  mine : Mine w0 w g bm nv s
  below : Below w0.heap.size w0 w
  arts : ArtsOut w b v L s

theorem St.keep {w0 w w' : World} {g bm b : Nat} {nv v : Value} {s : Snk} {L : List AE} (h : St w0 w g bm nv s b v L) (hb : Below w.heap.size w w') : St w0 w' g bm nv s b v L :=
  ⟨h.mine.below hb, h.below.trans (hb.mono h.below.size), h.arts.below hb⟩

theorem St.put {w0 w w' : World} {g bm b : Nat} {nv nv' v : Value} {s : Snk} {L : List AE} (h : St w0 w g bm nv s b v L) (hs : SnkAt w' g bm nv' s) (hl : nv'.ownBlock = nv.ownBlock ∨ ∃ k, nv'.ownBlock = some k ∧ w.heap.size ≤ k) (ht : Turns (ownBlocks g bm nv) w w') : St w0 w' g bm nv' s b v L := by
  have h2 := h.mine.next h.below hs hl ht
  exact ⟨h2.1, h2.2, h.arts.turns ht (h.mine.at_.noType (by decide) (by decide)) (h.mine.at_.noType (by decide) (by decide))⟩

/-- the walk's inner number: whatever index lies below it is not new -/
def Old (s : Snk) (o : SOp) (N : Int) : Prop := 0 ≤ N ∧ N ≤ 100 ∧ (o.index < N → s.new o.job o.badge o.index o.text = false)

set_option maxHeartbeats 4000000 in
set_option maxRecDepth 100000 in
theorem walk (A : Option Addr) (c : Nat) (l : List SOp) (A1 : Option Addr) (c1 : Nat) (r : List Int) (w : World) (hin : OpsIn w w.heap.size A l) (hfit : ∀ o ∈ l, o.Fit) (hlen : l.length < 1048577) (hsl : Sl w w.heap.size 1 A1 r.length (intCell .i64 r)) (hwf : ∀ x ∈ r, (Lit.int .i64 x).wf = true) (hrl : r.length < 1048577) :
    Calls Try.prog 4 #[.slice A l.length c, .slice A1 r.length c1] w fun e w' => e = .returned (.bool true) ∧ Below w.heap.size w w' := by
  have HA := Lib.hid awake_any
  have HIN := Lib.hid hin
  have HFIT := Lib.hid hfit
  have HSL := Lib.hid hsl
  have HWF := Lib.hid hwf
  clear hin hfit hsl hwf
  go_enter Try.func4, Try.ntmps4
  go_wp2_with fail
  refine (snkNew_any _).mono ?_
  rintro x w1 ⟨bm, g, rfl, hs1, hb1, hg1, hm1⟩
  have HP1 := Lib.hid (show Mine w w1 g bm (.slice none 0 0) Snk.none ∧ Below w.heap.size w w1 from ⟨⟨hs1, hg1, hm1, fun k hk => by cases hk⟩, hb1⟩)
  clear hs1 hb1 hg1 hm1
  go_wp2_with fail
  refine (HA.out _).mono ?_
  rintro x w3 ⟨rfl, hb3⟩
  have HP3 := Lib.hid (show Mine w w3 g bm (.slice none 0 0) Snk.none ∧ Below w.heap.size w w3 from ⟨HP1.out.1.below hb3, HP1.out.2.trans (hb3.mono HP1.out.2.size)⟩)
  clear hb3
  go_upto_region 5 with (fail)
  go_loopw [6] (fun i wr => ∃ (k : Nat) (nv : Value), k ≤ l.length ∧ i = .int .i64 (k : Int) ∧ Mine w wr g bm nv (Snk.none.ops (l.take k)) ∧ Below w.heap.size w wr) (fun i _ => l.length - (intOf i).toNat)
  case atStart => exact ⟨0, _, Nat.zero_le _, rfl, HP3.out⟩
  case round =>
    obtain ⟨k, nv, hk, rfl, hP⟩ := hrel
    have HP := Lib.hid hP
    clear hP
    by_cases hlt : k < l.length
    · obtain ⟨o, ho⟩ : ∃ o, l[k]? = some o := ⟨_, List.getElem?_eq_getElem hlt⟩
      obtain ⟨b0, off, rfl, hb0, hcell⟩ := (HIN.out.below HP.out.2) (by omega)
      have hoc := hcell k o ho
      have hof := HFIT.out o (List.mem_of_getElem? ho)
      have hi0 : (0 : Int) ≤ (k : Int) := by omega
      have hi1 : (k : Int) < (l.length : Int) := by omega
      have htk : Snk.none.ops (l.take (k + 1)) = (Snk.none.ops (l.take k)).op o := by
        rw [List.take_add_one, ho]
        exact ops_snoc _ _ _
      have HTK := Lib.hid htk
      have HNW := Lib.hid (show (Snk.none.ops (l.take k)).news.length < 1073741824 from by
        have := ops_news Snk.none (l.take k)
        have h2 : Snk.none.news.length = 0 := rfl
        rw [List.length_take] at this
        omega)
      have c2 := hoc.c2
      have c3 := hoc.c3
      have c4 := hoc.c4
      have c5 := hoc.c5
      have HOF := Lib.hid hof
      clear hoc hcell htk hof ho
      go_upto_region 7 with (fail)
      go_still_tail 21, (by kernel_rfl)
      have HD := Lib.hid (show Mine w wr.drew g bm nv (Snk.none.ops (l.take k)) ∧ Below w.heap.size w wr.drew from ⟨HP.out.1.below (Below.refl wr.heap.size wr).drew, HP.out.2.drew⟩)
      clear c2 c3 c4 c5
      change wpList _ _ _ _ _ wr.drew
      generalize wr.drew = wd at HD ⊢
      go_wp2_with fail
      refine (snkPut_any wd HD.out.1.at_ o.job o.badge o.index o.text (i64_wf HOF.out.job) HNW.out (Nat.lt_trans HOF.out.text (by decide))).mono ?_
      rintro x w5 ⟨rfl, nv5, hs, hl, ht⟩
      have HN := Lib.hid (HD.out.1.next HD.out.2 hs hl ht)
      clear hs hl ht
      go_wp2
      go_roundw
      case rel => exact ⟨k + 1, nv5, by omega, by go_num, by rw [HTK.out]; exact HN.out⟩
      case measure => simp [intOf]; omega
    · obtain rfl : k = l.length := by omega
      have hi1 : ¬ ((l.length : Int) < (l.length : Int)) := by omega
      rw [List.take_length] at HP
      go_wp2_with fail
      refine (artefacts_any _ HP.out.1.at_).mono ?_
      rintro x w5 ⟨v5, L5, rfl, ha5, hb5⟩
      obtain ⟨A5, c5, rfl⟩ := own_slice ha5.row
      obtain ⟨ZB, hZB⟩ : ∃ z, z = wr.heap.size := ⟨_, rfl⟩
      rw [← hZB] at ha5
      have HL9 := Lib.hid ha5.len
      have HA5 := Lib.hid (show (Mine w w5 g bm nv (Snk.none.ops l) ∧ Below w.heap.size w w5) ∧ ArtsOut w5 ZB _ L5 (Snk.none.ops l) from ⟨⟨HP.out.1.below hb5, HP.out.2.trans (hb5.mono HP.out.2.size)⟩, ha5⟩)
      clear ha5 hb5
      go_wp2_with fail
      refine (snkTold_any _ HA5.out.1.1.at_).mono ?_
      rintro x w6 ⟨rfl, hs6, hev6, hg6⟩
      have HS6 := Lib.hid (show St w w6 g bm (.slice none 0 0) (told l) ZB (.slice A5 L5.length c5) L5 from ⟨⟨hs6, HA5.out.1.1.g, HA5.out.1.1.b, fun k hk => by cases hk⟩, HA5.out.1.2.grown hg6 HA5.out.1.2.size (fun k hk => by cases hk; exact HA5.out.1.1.g), by
        have h := HA5.out.2.turns (Turns.of_only hg6) (fun x hx => HA5.out.1.1.at_.noType (by decide) (by decide) x (by simp at hx; subst hx; simp [ownBlocks])) (fun x hx => HA5.out.1.1.at_.noType (by decide) (by decide) x (by simp at hx; subst hx; simp [ownBlocks]))
        exact ⟨h.row, h.each, h.jobs⟩⟩)
      obtain ⟨A6, c6, rfl⟩ := own_slice hev6
      clear hs6 hev6 hg6
      go_upto_region 11 with (fail)
      go_loopw [8] (fun i wx => ∃ (k : Nat) (nv : Value), k ≤ r.length ∧ i = .int .i64 (k : Int) ∧ St w wx g bm nv (told l) ZB (.slice A5 L5.length c5) L5) (fun i _ => r.length - (intOf i).toNat)
      case atStart => exact ⟨0, _, Nat.zero_le _, rfl, HS6.out⟩
      case round =>
        obtain ⟨k, nv, hk, rfl, hS⟩ := hrel
        have HS := Lib.hid hS
        clear hS
        by_cases hkr : k < r.length
        · obtain ⟨b1, off1, rfl, hb1, hc1⟩ := (HSL.out.below HS.out.below) (by omega)
          have q0 := hc1 k (by omega)
          have hi0 : (0 : Int) ≤ (k : Int) := by omega
          have hi1 : (k : Int) < (r.length : Int) := by omega
          by_cases hl0 : 0 < l.length
          · have hg0 : (0 : Int) < (l.length : Int) := by omega
            have hz : ¬ ((l.length : Int) = 0) := by omega
            obtain ⟨x, hx⟩ : ∃ x, x = r.getD k 0 := ⟨_, rfl⟩
            unfold intCell at q0
            rw [← hx] at q0
            have tm1 : -(l.length : Int) < x.tmod l.length := by
              have := Int.natAbs_tmod x l.length
              have h2 : x.natAbs % ((l.length : Int)).natAbs < ((l.length : Int)).natAbs := Nat.mod_lt _ (by omega)
              omega
            have tm2 : x.tmod l.length < (l.length : Int) := Int.tmod_lt_of_pos _ (by omega)
            clear hc1 hx
            go_upto_region 14 with (fail)
            obtain ⟨ko, hko, hkol⟩ : ∃ ko : Nat, ((ko : Int) = x.tmod l.length + l.length ∧ x.tmod l.length < 0 ∨ (ko : Int) = x.tmod l.length ∧ 0 ≤ x.tmod l.length) ∧ ko < l.length := by
              by_cases h0 : x.tmod l.length < 0
              · exact ⟨(x.tmod l.length + l.length).toNat, .inl ⟨by omega, h0⟩, by omega⟩
              · exact ⟨(x.tmod l.length).toNat, .inr ⟨by omega, by omega⟩, by omega⟩
            obtain ⟨o, ho⟩ : ∃ o, l[ko]? = some o := ⟨_, List.getElem?_eq_getElem hkol⟩
            obtain ⟨b0, off, rfl, hb0, hcell⟩ := (HIN.out.below HS.out.below) (by omega)
            have hoc := hcell ko o ho
            have HOF := Lib.hid (HFIT.out o (List.mem_of_getElem? ho))
            have hi2 : (0 : Int) ≤ (ko : Int) := by omega
            have hi3 : (ko : Int) < (l.length : Int) := by omega
            obtain ⟨c0, c1', c2, c3, c4, c5', c6', c7, c8⟩ := hoc
            clear hcell ho q0
            have HK : Hid (∀ W, W = wr.alloc (.cells #[.int .i64 o.kind, .int .i64 o.on, .int .i64 o.job, .int .i64 o.badge, .int .i64 o.index, .string o.text, .string o.data, .int .i64 o.nd, .int .i64 o.lf] 33) → St w W g bm nv (told l) ZB (.slice A5 L5.length c5) L5 ∧ Cells W wr.heap.size 33 #[.int .i64 o.kind, .int .i64 o.on, .int .i64 o.job, .int .i64 o.badge, .int .i64 o.index, .string o.text, .string o.data, .int .i64 o.nd, .int .i64 o.lf]) := Lib.hid fun W hW => by
              rw [hW]
              exact ⟨HS.out.keep (below_new0 _ _), Cells.new _ _ _⟩
            rcases hko with ⟨hko, hneg⟩ | ⟨hko, hneg⟩
            all_goals
              go_upto_region 16 with (fail)
              rw [← hko]
              clear hko hneg tm1 tm2
              go_upto_region 17 with (fail)
            all_goals
              obtain ⟨hS9, hO9⟩ := HK.out _ rfl
              have HS9 := Lib.hid hS9
              have HO9 := Lib.hid hO9
              clear hS9 hO9 HK c0 c1' c2 c3 c4 c5' c6' c7 c8
              generalize hwO : wr.alloc (.cells #[.int .i64 o.kind, .int .i64 o.on, .int .i64 o.job, .int .i64 o.badge, .int .i64 o.index, .string o.text, .string o.data, .int .i64 o.nd, .int .i64 o.lf] 33) = wO at HS9 HO9 ⊢
              clear hwO
              go_upto_region 19 with (fail)
              have hl9 := HL9.out
              go_loopw [12, 11] (fun i t wx => ∃ (k : Nat) (N : Int) (n : Nat), k ≤ L5.length ∧ i = .int .i64 (k : Int) ∧ t = .int .i64 N ∧ wx = wO.drewN n ∧ Old (told l) o N) (fun i _ _ => L5.length - (intOf i).toNat)
              case atStart => exact ⟨0, 0, 0, Nat.zero_le _, rfl, rfl, rfl, by omega, by omega, fun h => again_zero h _ _ _⟩
              case round =>
                obtain ⟨k2, N, n, hk2, rfl, rfl, rfl, hOld⟩ := hrel
                have HN := Lib.hid hOld
                clear hOld
                by_cases hkl : k2 < L5.length
                · obtain ⟨ge, j, b, a, na, ca, lp, he⟩ := HS9.out.arts.elem HS9.out.mine.at_.fit hkl
                  have hA := he.addr
                  subst hA
                  have e0 : (wO.drewN n).cell? ⟨ge, k2 * 3, none⟩ = some (.int .i64 (j.val : Int)) := he.c0
                  have e1 : (wO.drewN n).cell? ⟨ge, k2 * 3 + 1, none⟩ = some (.int .i64 b) := he.c1
                  have e2 : (wO.drewN n).cell? ⟨ge, k2 * 3 + 2, none⟩ = some (.slice a na ca) := he.c2
                  have HE := Lib.hid he
                  have hj0 : (0 : Int) ≤ (k2 : Int) := by omega
                  have hj1 : (k2 : Int) < (L5.length : Int) := by omega
                  clear he
                  have q2 : (wO.drewN n).cell? ⟨wr.heap.size, 2, none⟩ = some (.int .i64 o.job) := HO9.out.cell (j := 2) rfl
                  have q3 : (wO.drewN n).cell? ⟨wr.heap.size, 3, none⟩ = some (.int .i64 o.badge) := HO9.out.cell (j := 3) rfl
                  have hna := HE.out.len
                  have hn16 : na ≤ 16 := by omega
                  clear hna
                  by_cases hj : (j.val : Int) = o.job
                  · have hjb : ((j.val : Int) == o.job) = true := by rw [beq_iff_eq]; exact hj
                    have HART := Lib.hid (show (told l).art o.job = some ⟨b, lp⟩ from hj ▸ HE.out.art)
                    clear hj
                    generalize (j.val : Int) = jv at e0 hjb
                    generalize hwz : wO.drewN n = wz at *
                    by_cases hb : b = o.badge
                    · have hbb : (b == o.badge) = true := by rw [beq_iff_eq]; exact hb
                      have hgt : ¬ o.badge < b := by omega
                      have HN2 := Lib.hid (show Old (told l) o (1 + (na : Int)) from ⟨by omega, by omega, fun h => again_same (hb ▸ HART.out) (by rw [← HE.out.len.1]; exact h) _⟩)
                      clear hb
                      go_wp2
                      go_quiet (fail)
                      go_wp2
                      go_quiet (fail)
                      go_wp2
                      go_roundw
                      case rel => exact ⟨k2 + 1, 1 + (na : Int), _, by omega, by go_num, by go_num, by rw [← hwz]; first | rfl | (rw [World.drewN_drewN]), HN2.out⟩
                      case measure => simp [intOf]; omega
                    · have hbb : (b == o.badge) = false := by rw [beq_eq_false_iff_ne]; exact hb
                      by_cases hgt : o.badge < b
                      · have HN2 := Lib.hid (show Old (told l) o 100 from ⟨by omega, by omega, fun h => again_less HART.out hgt _ _⟩)
                        clear hb
                        go_wp2
                        go_quiet (fail)
                        go_wp2
                        go_quiet (fail)
                        go_wp2
                        go_roundw
                        case rel => exact ⟨k2 + 1, 100, _, by omega, by go_num, rfl, by rw [← hwz]; first | rfl | (rw [World.drewN_drewN]), HN2.out⟩
                        case measure => simp [intOf]; omega
                      · clear hb
                        go_wp2
                        go_quiet (fail)
                        go_wp2
                        go_quiet (fail)
                        go_wp2
                        go_roundw
                        case rel => exact ⟨k2 + 1, N, _, by omega, by go_num, rfl, by rw [← hwz]; first | rfl | (rw [World.drewN_drewN]), HN.out⟩
                        case measure => simp [intOf]; omega
                  · have hjb : ((j.val : Int) == o.job) = false := by rw [beq_eq_false_iff_ne]; exact hj
                    clear hj
                    generalize (j.val : Int) = jv at e0 hjb
                    generalize hwz : wO.drewN n = wz at *
                    go_wp2
                    go_quiet (fail)
                    go_wp2
                    go_quiet (fail)
                    go_wp2
                    go_roundw
                    case rel => exact ⟨k2 + 1, N, _, by omega, by go_num, rfl, by rw [← hwz]; first | rfl | (rw [World.drewN_drewN]), HN.out⟩
                    case measure => simp [intOf]; omega
                · obtain rfl : k2 = L5.length := by omega
                  have hj1 : ¬ (L5.length : Int) < (L5.length : Int) := by omega
                  have HS10 := Lib.hid (HS9.out.keep (below_drewN (Below.refl wO.heap.size wO) n))
                  have HO10 := Lib.hid (HO9.out.drewN n)
                  clear hkl HS9 HO9
                  generalize wO.drewN n = wz at HS10 HO10 ⊢
                  have q2 := HO10.out.cell (j := 2) rfl
                  have q3 := HO10.out.cell (j := 3) rfl
                  have q4 := HO10.out.cell (j := 4) rfl
                  have q5 := HO10.out.cell (j := 5) rfl
                  by_cases hx : o.index < N
                  · have hx2 : ¬ N ≤ o.index := by omega
                    have HNEW := Lib.hid (HN.out.2.2 hx)
                    clear hx
                    go_wp2_with fail
                    refine (snkPut_any _ HS10.out.mine.at_ o.job o.badge o.index o.text (i64_wf HOF.out.job) (show 0 < 1073741824 by decide) (Nat.lt_trans HOF.out.text (by decide))).mono ?_
                    rintro x w11 ⟨rfl, nv11, hs, hl, ht⟩
                    rw [put_not HNEW.out] at hs
                    have HS11 := Lib.hid (HS10.out.put hs hl ht)
                    clear hs hl ht q2 q3 q4 q5
                    go_wp2
                    go_roundw
                    case rel => exact ⟨k + 1, nv11, by omega, by go_num, HS11.out⟩
                    case measure => simp [intOf]; omega
                  · have hx2 : N ≤ o.index := by omega
                    clear hx
                    go_wp2
                    go_roundw
                    case rel => exact ⟨k + 1, nv, by omega, by go_num, HS10.out⟩
                    case measure => simp [intOf]; omega
          · have hg0 : ¬ (0 : Int) < (l.length : Int) := by omega
            clear hc1 q0 hi0
            go_wp2_with fail
            refine (artefacts_any _ HS.out.mine.at_).mono ?_
            rintro x w12 ⟨v12, L12, rfl, ha12, hb12⟩
            obtain ⟨A12, c12, rfl⟩ := own_slice ha12.row
            have HS12 := Lib.hid (And.intro (HS.out.keep hb12) ha12)
            clear ha12 hb12
            go_wp2_with fail
            refine (sameArts_any _ HS12.out.1.arts HS12.out.2 (fun _ => rfl) HS12.out.1.mine.at_.fit HL9.out).mono ?_
            rintro x w13 ⟨rfl, n13, hw13⟩
            have HS13 := Lib.hid (show St w w13 g bm nv (told l) ZB (.slice A5 L5.length c5) L5 from hw13 ▸ HS12.out.1.keep (below_drewN (Below.refl w12.heap.size w12) n13))
            clear hw13
            go_wp2_with fail
            refine (snkTold_any _ HS13.out.mine.at_).mono ?_
            rintro x w14 ⟨rfl, _, hev, hg14⟩
            obtain ⟨A14, c14, rfl⟩ := own_slice hev
            have HW14 := Lib.hid (show Below w.heap.size w w14 from HS13.out.below.grown hg14 HS13.out.below.size fun k hk => by cases hk; exact HS13.out.mine.g)
            clear hev hg14
            have hz0 : (told l).news.length = 0 := rfl
            rw [hz0]
            go_wp2
            go_ret
            exact ⟨rfl, HW14.out⟩
        · have hi1 : ¬ (k : Int) < (r.length : Int) := by omega
          go_wp2_with fail
          refine (artefacts_any _ HS.out.mine.at_).mono ?_
          rintro x w12 ⟨v12, L12, rfl, ha12, hb12⟩
          obtain ⟨A12, c12, rfl⟩ := own_slice ha12.row
          have HS12 := Lib.hid (And.intro (HS.out.keep hb12) ha12)
          clear ha12 hb12
          go_wp2_with fail
          refine (sameArts_any _ HS12.out.1.arts HS12.out.2 (fun _ => rfl) HS12.out.1.mine.at_.fit HL9.out).mono ?_
          rintro x w13 ⟨rfl, n13, hw13⟩
          have HS13 := Lib.hid (show St w w13 g bm nv (told l) ZB (.slice A5 L5.length c5) L5 from hw13 ▸ HS12.out.1.keep (below_drewN (Below.refl w12.heap.size w12) n13))
          clear hw13
          go_wp2_with fail
          refine (snkTold_any _ HS13.out.mine.at_).mono ?_
          rintro x w14 ⟨rfl, _, hev, hg14⟩
          obtain ⟨A14, c14, rfl⟩ := own_slice hev
          have HW14 := Lib.hid (show Below w.heap.size w w14 from HS13.out.below.grown hg14 HS13.out.below.size fun k hk => by cases hk; exact HS13.out.mine.g)
          clear hev hg14
          have hz0 : (told l).news.length = 0 := rfl
          rw [hz0]
          go_wp2
          go_ret
          exact ⟨rfl, HW14.out⟩

-- LIFT
set_option maxRecDepth 100000 in
theorem contract (H : Type) (enc : TypeId × Value → H) (W : World) (base : Nat) (args : Array Value) (ds gs : List (DataW H)) (before : List MemPlace)
    (hval : ∀ (j : Nat) t v, Try.f4.params[j]? = some t → args[j]? = some v → Value.okWide Try.prog W .any base t v)
    (hW : DataW.Whole enc Try.prog Try.f4.params.toList Rows.sinkAgainSpec.vars false W args.toList ds gs before) (hk : Rows.uptoSmall H (ds ++ gs) = true) :
    Calls Try.prog 4 args W fun e W' => ∃ v, e = .returned v ∧ Rows.sinkAgainSpec.post enc Try.prog Try.f4 false true false false W args v W' := by
  have hts : Try.f4.params.toList.all (fun t => Try.prog.readableRec t && decide (t < Try.prog.types.size)) = true := by kernel_rfl
  have hW' := hW
  obtain ⟨p, q, hA0, hV, rfl, hfz, hnd⟩ := hW
  have hA : DataW.TrodAll enc Try.prog W 0 (fun _ => true) true Try.f4.params.toList args.toList ds p := hA0
  rw [Try.params4] at hA hval
  obtain ⟨v0, vs0, d0, ds0, p0, q0, hargs, rfl, rfl, h0, r0⟩ := trodAll_cons hA
  obtain ⟨v1, vs1, d1, ds1, p1, q1, rfl, rfl, rfl, h1, r1⟩ := trodAll_cons r0
  obtain ⟨rfl, rfl, rfl⟩ := trodAll_nil r1
  obtain rfl : args = #[v0, v1] := by cases args; simp_all
  obtain ⟨rfl, rfl⟩ := trodVars_none hV
  have hfn : Rows.sinkAgainSpec.fn H ([d0, d1] ++ []) = { results := [.lit (.bool true)], args := [d0, d1] } := rfl
  have hfin := fun W' (hbel : Below W.heap.size W W') => law_post (f := Try.f4) (s := Rows.sinkAgainSpec) 4 Try.laid hts rfl Try.underlying4 rfl hfn hW' hbel
  clear hA0 hts hfn
  simp only [List.append_nil] at hk
  obtain ⟨A0, c0, l0, rfl, sl0, fit0, len0⟩ := open_sops (hval 0 22 v0 rfl rfl) h0 (bulk_mem hk _ (by simp))
  obtain ⟨A1, n1, c1, l1, rfl, sl1, len1, m1, fit1⟩ := open_int_slice Try.underlying52 Try.underlying3 (by kernel_rfl) (hval 1 52 v1 rfl rfl) h1 (bulk_mem hk _ (by simp))
  subst len1
  exact (walk A0 c0 l0 A1 c1 l1 W sl0 fit0 (by omega) sl1 fit1 (by omega)).mono fun e W' ⟨he, hg⟩ => ⟨_, he, hfin W' hg⟩

set_option maxRecDepth 100000 in
theorem lifted (os : Os) (started : os.Started) (H : Type) (enc : TypeId × Value → H) (F : Stop.Interp) :
    ReturnsInHanded {} Try.checked os 4 .any ((Rows.OpenSpec.upto Rows.sinkAgainSpec).pre6 enc Try.prog Try.f4 Rows.sinkAgainUptoRow.domain false) (((Rows.OpenSpec.upto Rows.sinkAgainSpec).at F).post enc Try.prog Try.f4 false true false false) := by
  refine returnsInHanded_of_cond (C := Try.checked) (s := Rows.OpenSpec.upto Rows.sinkAgainSpec) (k := Rows.uptoSmall) rfl Try.own started (by kernel_rfl) Try.func4
    (OpenSpec.witness (enc := enc) (C := Try.checked) (s := Rows.OpenSpec.upto Rows.sinkAgainSpec) (k := Rows.uptoSmall) rfl false ⟨#[], #[.slice none 0 0, .slice none 0 0], []⟩ 8 (by kernel_rfl) (by kernel_rfl) (by kernel_rfl)
      (x := ([.nil, .nil], [], [])) (by kernel_rfl) rfl (by kernel_rfl)) ?_
  intro W base args ds gs before hval hW _ hk _
  exact contract H enc W base args ds gs before hval hW hk

theorem proved : Rows.SinkAgainUptoSaid :=
  OpenClaim.holds_of_cond 4 Try.f4 rfl rfl rfl rfl rfl rfl rfl ⟨rfl, rfl, rfl, rfl, rfl⟩ rfl rfl rfl rfl rfl (by kernel_rfl) Try.func4 (by kernel_rfl)
    (of_decide_eq_true (by kernel_rfl)) (by unfold Func.isWrapper; first | (rw [if_pos (by decide +kernel)]; kernel_rfl) | (rw [if_neg (by decide +kernel)]; exact ⟨rfl, rfl⟩))
    (fun os started H enc _ F => lifted os started H enc F)

end Go.Proofs.Ytpnfdmglhonkmaa.sinkAgain
