/- SinkSays: to each MsgPut that is a message the sink says one thing; to all other bytes nothing. Condition: the arguments are of bulk at most 1048576. -/
import Derived.StillTailTactics
import Derived.BigQuiet
import Derived.Test.YtpnfdmglhonkmaaGreatTwo
import Derived.Test.YtpnfdmglhonkmaaGreatWSame
import Derived.Test.YtpnfdmglhonkmaaGreatMsgOpen
set_option maxRecDepth 100000
namespace Go.Proofs.YtpnfdmglhonkmaaGreat.sinkSays
open Go.RowKit Go.WideShapes Go.ChangeShapes Go.ChangeAt Go.Maps
open Go.ChangeMaps (open_string shut_string)

/-! ### The plain law -/
theorem decode_nothing : (decode ⟨#[]⟩).2 ≠ 0 := by
  intro h
  obtain ⟨h1, h2, h3, h4⟩ := decode_ok (b := ⟨#[]⟩) (by decide) (show decode ⟨#[]⟩ = ((decode ⟨#[]⟩).1, 0) by rw [← h])
  obtain ⟨t, ht, _⟩ := bytes_first h2
  rw [ht] at h3
  have := congrArg ByteArray.size h3
  simp [str, ByteArray.size] at this

theorem reply_nothing (s : Snk) : s.reply ⟨#[]⟩ = none := by
  unfold Snk.reply
  rw [if_neg (fun h => decode_nothing h.1)]
theorem heard_nothing (s : Snk) : s.heard ⟨#[]⟩ = s := by
  unfold Snk.heard
  rw [if_neg (fun h => decode_nothing h.1)]

theorem reply_bytes {m : Mg} (hm : m.Fit) (h : m.check = 0) (s : Snk) : s.reply (str m.bytes) = if m.kind = 6 then some (s.answer m) else none := by
  unfold Snk.reply
  rw [decode_bytes hm h]
  by_cases hk : m.kind = 6
  · rw [if_pos ⟨rfl, hk⟩, if_pos hk]
  · rw [if_neg (fun e => hk e.2), if_neg hk]
theorem heard_bytes {m : Mg} (hm : m.Fit) (h : m.check = 0) (s : Snk) : s.heard (str m.bytes) = if m.kind = 6 then s.put m.job m.badge m.idx m.text else s := by
  unfold Snk.heard
  rw [decode_bytes hm h]
  by_cases hk : m.kind = 6
  · rw [if_pos ⟨rfl, hk⟩, if_pos hk]
  · rw [if_neg (fun e => hk e.2), if_neg hk]

theorem put_fields {m : Mg} (h : m.check = 0) (hk : m.kind = 6) : (1 ≤ m.job ∧ m.job ≤ 8) ∧ (1 ≤ m.badge ∧ m.badge ≤ 1099511627776) ∧ (0 ≤ m.idx ∧ m.idx ≤ 16) ∧ m.text.size ≤ 32 ∧ ¬ (m.idx = 0 ∧ m.text ≠ ⟨#[]⟩) := by
  unfold Mg.check at h
  split at h
  · simp at h
  split at h
  · rename_i h2
    obtain ⟨_, h3, h4⟩ := h2
    rw [hk] at h4
    simp [fieldsOf, Fd.may, Mg.int, Mg.str] at h4
    refine ⟨⟨by omega, by omega⟩, ⟨by omega, by omega⟩, ⟨by omega, by omega⟩, by omega, fun e => h3 ⟨hk, e⟩⟩
  · simp at h

theorem answer_check {m : Mg} (h : m.check = 0) (hk : m.kind = 6) {s : Snk} (hs : s.Fit) : (s.answer m).check = 0 := by
  obtain ⟨h1, h2, _, _, _⟩ := put_fields h hk
  have hc := (hs.put m.job m.badge m.idx m.text).count m.job m.badge
  unfold Snk.answer
  split
  · unfold Mg.check
    rw [if_neg (by simp [Mg.none]), if_pos]
    refine ⟨rfl, by simp [Mg.none], ?_⟩
    simp [Mg.none, fieldsOf, Fd.may, Mg.int, Mg.str]
    omega
  · unfold Mg.check
    rw [if_neg (by simp [Mg.none]), if_pos]
    refine ⟨rfl, by simp [Mg.none], ?_⟩
    simp [Mg.none, fieldsOf, Fd.may, Mg.int, Mg.str]
    omega

theorem answer_fit {m : Mg} (hm : m.Fit) {s : Snk} (hs : s.Fit) : (s.answer m).Fit := by
  have hc := (hs.put m.job m.badge m.idx m.text).count m.job m.badge
  unfold Snk.answer
  split
  · exact ans_fit hm 16 0 (by decide) (by decide)
  · exact ans_fit hm 15 _ (by decide) (by omega)

theorem err_is {m : Mg} (h : m.check = 0) (hk : m.kind = 6) (s : Snk) : s.err m.job m.badge m.idx m.text = if m.badge < s.badge m.job then 161 else if (s.count m.job m.badge : Int) < m.idx then 162 else 0 := by
  obtain ⟨h1, h2, h3, h4, h5⟩ := put_fields h hk
  unfold Snk.err
  rw [if_neg (by omega), if_neg (by
    rintro (e | e)
    · omega
    · exact h5 e)]
  by_cases hb : m.badge < s.badge m.job
  · rw [if_pos (.inr (.inr hb)), if_pos hb]
  · rw [if_neg (by omega), if_neg hb]
    by_cases hc : (s.count m.job m.badge : Int) < m.idx
    · rw [if_pos (.inr (.inr hc)), if_pos hc]
    · rw [if_neg (by omega), if_neg hc]

theorem took {m : Mg} (h : m.check = 0) (hk : m.kind = 6) (s : Snk) (hb : ¬ m.badge < s.badge m.job) : m.idx ≠ 0 ∨ 0 < (s.put m.job m.badge m.idx m.text).count m.job m.badge := by
  by_cases h0 : m.idx = 0
  · right
    have he := err_is h hk s
    rw [if_neg hb, if_neg (by omega)] at he
    unfold Snk.put
    by_cases hn : s.new m.job m.badge m.idx m.text = true
    · rw [if_pos hn]
      simp only [Snk.takeIn, Snk.count, if_true]
      omega
    · rw [if_neg hn]
      unfold Snk.new at hn
      rw [decide_eq_true_eq, he] at hn
      omega
  · exact .inl h0

/-- what stands through the call -/
structure SS (w0 w : World) (g bm : Nat) (nv : Value) (s : Snk) (m : Mg) (nd lf : Int) : Prop where
  mine : Mine w0 w g bm nv s
  below : Below w0.heap.size w0 w
  ms : Ms w w0.heap.size m
  addr : Cells w (w0.heap.size + 1) 29 #[.int .i64 nd, .int .i64 lf]

theorem SS.keep {w0 w w' : World} {g bm : Nat} {nv : Value} {s : Snk} {m : Mg} {nd lf : Int} (h : SS w0 w g bm nv s m nd lf) (hb : Below w.heap.size w w') : SS w0 w' g bm nv s m nd lf :=
  ⟨h.mine.below hb, h.below.trans (hb.mono h.below.size), Cells.keep h.ms hb, h.addr.keep hb⟩

theorem SS.step {w0 w w' : World} {g bm : Nat} {nv nv' : Value} {s s' : Snk} {m : Mg} {nd lf : Int} (h : SS w0 w g bm nv s m nd lf) (hs : SnkAt w' g bm nv' s') (hl : nv'.ownBlock = nv.ownBlock ∨ ∃ k, nv'.ownBlock = some k ∧ w.heap.size ≤ k) (ht : Turns (ownBlocks g bm nv) w w') : SS w0 w' g bm nv' s' m nd lf := by
  have h2 := h.mine.next h.below hs hl ht
  exact ⟨h2.1, h2.2, Cells.turns h.ms ht (fun hx => h.mine.at_.noType (by decide) (by decide) _ hx _ _ h.ms), h.addr.turns ht (fun hx => h.mine.at_.noType (by decide) (by decide) _ hx _ _ h.addr)⟩

set_option maxHeartbeats 4000000 in
set_option maxRecDepth 100000 in
theorem walk (A : Option Addr) (c : Nat) (l : List SOp) (m : Mg) (nd lf : Int) (w : World) (hin : OpsIn w w.heap.size A l) (hfit : ∀ o ∈ l, o.Fit) (hlen : l.length < 1048577) (hm : m.Fit) :
    Calls Tryz.prog 3 #[.slice A l.length c, m.val, .agg #[.int .i64 nd, .int .i64 lf]] w fun e w' => e = .returned (.bool true) ∧ Below w.heap.size w w' := by
  have HA := Lib.hid awake_any
  have HIN := Lib.hid hin
  have HFIT := Lib.hid hfit
  have HM := Lib.hid hm
  clear hin hfit hm
  go_enter Tryz.func3, Tryz.ntmps3
  go_wp2_with fail
  refine (snkNew_any _).mono ?_
  rintro x w1 ⟨bm, g, rfl, hs1, hb1, hg1, hm1⟩
  have HP1 := Lib.hid (show SS w w1 g bm (.slice none 0 0) Snk.none m nd lf from ⟨⟨hs1, by simp at hg1; omega, by simp at hm1; omega, fun k hk => by cases hk⟩, (((Below.refl w.heap.size w).alloc (Nat.le_refl _) _).alloc (by simp) _).trans (hb1.mono (by simp; omega)), Cells.keep ((Cells.new w _ _).alloc _) hb1, Cells.keep (Cells.newAt _ _ _ _ (by simp)) hb1⟩)
  clear hs1 hb1 hg1 hm1
  go_wp2_with fail
  refine (HA.out _).mono ?_
  rintro x w3 ⟨rfl, hb3⟩
  have HP3 := Lib.hid (HP1.out.keep hb3)
  clear hb3
  go_upto_region 5 with (fail)
  go_loopw [8] (fun i wr => ∃ (k : Nat) (nv : Value), k ≤ l.length ∧ i = .int .i64 (k : Int) ∧ SS w wr g bm nv (Snk.none.ops (l.take k)) m nd lf) (fun i _ => l.length - (intOf i).toNat)
  case atStart => exact ⟨0, _, Nat.zero_le _, rfl, HP3.out⟩
  case round =>
    obtain ⟨k, nv, hk, rfl, hP⟩ := hrel
    have HP := Lib.hid hP
    clear hP
    by_cases hlt : k < l.length
    · obtain ⟨o, ho⟩ : ∃ o, l[k]? = some o := ⟨_, List.getElem?_eq_getElem hlt⟩
      obtain ⟨b0, off, rfl, hb0, hcell⟩ := (HIN.out.below HP.out.below) (by omega)
      have hoc := hcell k o ho
      have hof := HFIT.out o (List.mem_of_getElem? ho)
      have hi0 : (0 : Int) ≤ (k : Int) := by omega
      have hi1 : (k : Int) < (l.length : Int) := by omega
      have htk : Snk.none.ops (l.take (k + 1)) = (Snk.none.ops (l.take k)).op o := by
        rw [List.take_add_one, ho]
        exact ops_snoc _ _ _
      have HTK := Lib.hid htk
      have HNW := Lib.hid (show (Snk.none.ops (l.take k)).news.length < 1073741824 from by
        have := ops_news Snk.none (l.take k)
        have h2 : Snk.none.news.length = 0 := rfl
        rw [List.length_take] at this
        omega)
      have c2 := hoc.c2
      have c3 := hoc.c3
      have c4 := hoc.c4
      have c5 := hoc.c5
      have HOF := Lib.hid hof
      clear hoc hcell htk hof ho
      go_upto_region 7 with (fail)
      go_still_tail 21, (by kernel_rfl)
      have HD := Lib.hid (show SS w wr.drew g bm nv (Snk.none.ops (l.take k)) m nd lf from HP.out.keep (Below.refl wr.heap.size wr).drew)
      clear c2 c3 c4 c5
      change wpList _ _ _ _ _ wr.drew
      generalize wr.drew = wd at HD ⊢
      go_wp2_with fail
      refine (snkPut_any wd HD.out.mine.at_ o.job o.badge o.index o.text (i64_wf HOF.out.job) HNW.out (Nat.lt_trans HOF.out.text (by decide))).mono ?_
      rintro x w5 ⟨rfl, nv5, hs, hl, ht⟩
      have HN := Lib.hid (HD.out.step hs hl ht)
      clear hs hl ht
      go_wp2
      go_roundw
      case rel => exact ⟨k + 1, nv5, by omega, by go_num, by rw [HTK.out]; exact HN.out⟩
      case measure => simp [intOf]; omega
    · obtain rfl : k = l.length := by omega
      have hi1 : ¬ ((l.length : Int) < (l.length : Int)) := by omega
      rw [List.take_length] at HP
      have HNW := Lib.hid (show (Snk.none.ops l).news.length < 1048577 from by
        have := ops_news Snk.none l
        have h2 : Snk.none.news.length = 0 := rfl
        omega)
      generalize Snk.none.ops l = s at HP HNW
      go_wp2_with fail
      refine (artefacts_any _ HP.out.mine.at_).mono ?_
      rintro x w5 ⟨v5, L5, rfl, ha5, hb5⟩
      obtain ⟨A5, c5, rfl⟩ := own_slice ha5.row
      have HL9 := Lib.hid ha5.len
      have HA5 := Lib.hid (show SS w w5 g bm nv s m nd lf ∧ ArtsOut w5 wr.heap.size _ L5 s from ⟨HP.out.keep hb5, ha5⟩)
      clear ha5 hb5
      go_upto_region 11 with (fail)
      go_loopw [11, 9] (fun i t wx => ∃ (k : Nat) (T : Int) (n : Nat), k ≤ L5.length ∧ i = .int .i64 (k : Int) ∧ t = .int .i64 T ∧ wx = w5.drewN n ∧ (T = 0 ∨ T = s.badge m.job) ∧ ((∃ (j : Nat) (x : AE), j < k ∧ L5[j]? = some x ∧ (x.1.val : Int) = m.job) → T = s.badge m.job)) (fun i _ _ => L5.length - (intOf i).toNat)
      case atStart => exact ⟨0, 0, 0, Nat.zero_le _, rfl, rfl, rfl, .inl rfl, fun ⟨j, x, h, _⟩ => by omega⟩
      case round =>
        obtain ⟨k, T, n, hk, rfl, rfl, rfl, hT1, hT2⟩ := hrel
        have HT := Lib.hid (And.intro hT1 hT2)
        clear hT1 hT2
        by_cases hkl : k < L5.length
        · obtain ⟨ge, j, b, a, na, ca, lp, he⟩ := HA5.out.2.elem HA5.out.1.mine.at_.fit hkl
          have hA := he.addr
          subst hA
          have e0 : (w5.drewN n).cell? ⟨ge, k * 3, none⟩ = some (.int .i64 (j.val : Int)) := he.c0
          have e1 : (w5.drewN n).cell? ⟨ge, k * 3 + 1, none⟩ = some (.int .i64 b) := he.c1
          have q3 : (w5.drewN n).cell? ⟨w.heap.size, 3, none⟩ = some (.int .i64 m.job) := (Ms.all HA5.out.1.ms).2.2.2.1
          have HE := Lib.hid he
          have hi0 : (0 : Int) ≤ (k : Int) := by omega
          have hi1 : (k : Int) < (L5.length : Int) := by omega
          clear he
          clear q3
          have HQ : Hid (∀ nn, (w5.drewN nn).cell? ⟨w.heap.size, 3, none⟩ = some (.int .i64 m.job)) := Lib.hid fun nn => (Ms.all HA5.out.1.ms).2.2.2.1
          have hl9 := HL9.out
          by_cases hj : (j.val : Int) = m.job
          · have hjb : ((j.val : Int) == m.job) = true := by rw [beq_iff_eq]; exact hj
            have HB := Lib.hid (show b = s.badge m.job from by
              have := HE.out.art
              rw [hj] at this
              unfold Snk.badge
              rw [this])
            clear hj
            generalize (j.val : Int) = jv at e0 hjb
            have q3 := HQ.out n
            generalize hwz : w5.drewN n = wz at *
            go_wp2
            go_quiet (fail)
            go_wp2
            go_roundw
            case rel => exact ⟨k + 1, b, _, by omega, by go_num, rfl, by rw [← hwz]; first | rfl | (rw [World.drewN_drewN]), .inr HB.out, fun _ => HB.out⟩
            case measure => simp [intOf]; omega
          · have hjb : ((j.val : Int) == m.job) = false := by rw [beq_eq_false_iff_ne]; exact hj
            have HT2 := Lib.hid (show (T = 0 ∨ T = s.badge m.job) ∧ ((∃ (j : Nat) (x : AE), j < k + 1 ∧ L5[j]? = some x ∧ (x.1.val : Int) = m.job) → T = s.badge m.job) from ⟨HT.out.1, fun ⟨i, x, h1, h2, h3⟩ => by
              by_cases hik : i = k
              · subst hik
                obtain ⟨y, hy, hyj⟩ := HE.out.job
                rw [h2] at hy
                injection hy with hy
                subst hy
                rw [hyj] at h3
                exact absurd h3 hj
              · exact HT.out.2 ⟨i, x, by omega, h2, h3⟩⟩)
            clear hj
            generalize (j.val : Int) = jv at e0 hjb
            have q3 := HQ.out n
            generalize hwz : w5.drewN n = wz at *
            go_wp2
            go_quiet (fail)
            go_wp2
            go_roundw
            case rel => exact ⟨k + 1, T, _, by omega, by go_num, rfl, by rw [← hwz]; first | rfl | (rw [World.drewN_drewN]), HT2.out⟩
            case measure => simp [intOf]; omega
        · obtain rfl : k = L5.length := by omega
          have HTT := Lib.hid (show T = s.badge m.job from by
            cases ha : s.art m.job with
            | none =>
              have h0 : s.badge m.job = 0 := by unfold Snk.badge; rw [ha]
              rcases HT.out.1 with h | h
              · rw [h, h0]
              · exact h
            | some a =>
              obtain ⟨i, x, h1, h2, h3⟩ := HA5.out.2.all HA5.out.1.mine.at_.fit ha
              exact HT.out.2 ⟨i, x, h1, h2, h3⟩)
          have hi1 : ¬ (L5.length : Int) < (L5.length : Int) := by omega
          have HS5 := Lib.hid (HA5.out.1.keep (below_drewN (Below.refl w5.heap.size w5) n))
          clear hkl HA5
          generalize w5.drewN n = wa at *
          obtain ⟨q0, q1, q2, q3, q4, q5, q6, q7, q8, q9, q10⟩ := HS5.out.ms.all
          go_wp2_with fail
          clear q0 q1 q2 q3 q4 q5 q6 q7 q8 q9 q10
          by_cases hck : m.check = 0
          · have henc : ∀ wx, Calls Tryz.prog 9 #[m.val] wx fun e w' => e = .returned (.tuple #[.string (str m.bytes), .int .i64 0]) ∧ Below wx.heap.size wx w' := fun wx => by
              have := rEncode_any m wx HM.out
              rw [if_pos hck, hck] at this
              exact this
            have HENC := Lib.hid henc
            clear henc
            refine (HENC.out _).mono ?_
            rintro x w6 ⟨rfl, hb6⟩
            have HS6 := Lib.hid (HS5.out.keep hb6)
            clear hb6
            obtain ⟨B, hB⟩ : ∃ B, B = str m.bytes := ⟨_, rfl⟩
            have HBS := Lib.hid (show B.size < 1073741824 from by
              have h := bytes_le HM.out hck
              rw [hB]
              show (m.bytes.toArray).size < _
              simp
              omega)
            have HRB := Lib.hid (show s.reply B = if m.kind = 6 then some (s.answer m) else none from hB ▸ reply_bytes HM.out hck s)
            have HHB := Lib.hid (show s.heard B = if m.kind = 6 then s.put m.job m.badge m.idx m.text else s from hB ▸ heard_bytes HM.out hck s)
            rw [← hB]
            clear hB
            have p0 := HS6.out.addr.cell (j := 0) rfl
            have p1 := HS6.out.addr.cell (j := 1) rfl
            go_wp2_with fail
            refine (hear_any _ HS6.out.mine.at_ nd lf B HBS.out (Nat.lt_trans HNW.out (by decide))).mono ?_
            rintro x w7 ⟨v7, nv7, rfl, hs, hl, ht, hh⟩
            have HS7 := Lib.hid (HS6.out.step hs hl ht)
            rw [HRB.out] at hh
            clear hs hl ht p0 p1
            by_cases hk6 : m.kind = 6
            · rw [if_pos hk6] at hh
              rw [HHB.out, if_pos hk6] at HS7
              obtain ⟨k7, rfl, hk7, hc7⟩ := hh
              have d0 := hc7.cell (j := 0) rfl
              have d1 := hc7.cell (j := 1) rfl
              have d2 := hc7.cell (j := 2) rfl
              have d3 := hc7.cell (j := 3) rfl
              have d4 := hc7.cell (j := 4) rfl
              have d5 := hc7.cell (j := 5) rfl
              have HD := Lib.hid hc7
              clear hc7
              have p0 := HS7.out.addr.cell (j := 0) rfl
              have p1 := HS7.out.addr.cell (j := 1) rfl
              have q0 := HS7.out.ms.all.1
              have t6 : (m.kind != 6) = false := by rw [bne_eq_false_iff_eq]; exact hk6
              have hq1 : ∀ wx, (binOp .neq 29 (.agg #[.int .i64 nd, .int .i64 lf]) (.agg #[.int .i64 nd, .int .i64 lf])).run Tryz.prog wx = .ok (.bool false) wx := fun wx => by simp [go_sem]
              have hq2 : ∀ wx, (binOp .neq 29 (.agg #[.int .i64 1, .int .i64 0]) (.agg #[.int .i64 1, .int .i64 0])).run Tryz.prog wx = .ok (.bool false) wx := fun wx => by simp [go_sem]
              obtain ⟨R, hR⟩ : ∃ R, R = s.answer m := ⟨_, rfl⟩
              have hRc : R.check = 0 := hR ▸ answer_check hck hk6 HS5.out.mine.at_.fit
              have hRf : R.Fit := hR ▸ answer_fit HM.out HS5.out.mine.at_.fit
              have hdec : ∀ wx, Calls Tryz.prog 11 #[.string R.out] wx fun e w' => e = .returned (.tuple #[R.val, .int .i64 0]) ∧ Below wx.heap.size wx w' := fun wx => by
                have ho : R.out = str R.bytes := by unfold Mg.out; rw [if_pos hRc]
                have := rDecode_any R.out wx (by
                  have h := bytes_le hRf hRc
                  rw [ho]
                  show (R.bytes.toArray).size < _
                  simp
                  omega)
                rw [rdecode_eq, ho, decode_bytes hRf hRc, ← ho] at this
                exact this
              have HDEC := Lib.hid hdec
              have HERR := Lib.hid (And.intro (err_is hck hk6 s) (took hck hk6 s))
              rw [← hR] at d5 HD
              have HR := Lib.hid hR
              clear hdec hRc hRf hR hk6 hck
              go_wp2
              go_quiet (fail)
              go_wp2_with fail
              have HS7q := Lib.hid (HS7.out.keep (below_drewN (Below.refl w7.heap.size w7) nq))
              clear d0 d1 d2 d3 d4 d5 p0 p1 q0 HD
              generalize w7.drewN nq = wq at HS7q ⊢
              refine (HDEC.out _).mono ?_
              rintro x w8 ⟨rfl, hb8⟩
              have HS8 := Lib.hid (HS7q.out.keep hb8)
              clear hb8
              go_upto_region 24 with (fail)
              have HS9 := Lib.hid (show SS w (w8.alloc (.cells R.cells 27)) g bm nv7 (s.put m.job m.badge m.idx m.text) m nd lf from HS8.out.keep (below_new0 _ _))
              have HMR := Lib.hid (show Ms (w8.alloc (.cells R.cells 27)) w8.heap.size R from Cells.new _ _ _)
              clear hq1 hq2 t6
              generalize hwR : w8.alloc (.cells R.cells 27) = wR at HS9 HMR ⊢
              by_cases hbt : m.badge < s.badge m.job
              · have hR := HR.out
                rw [Snk.answer, HERR.out.1, if_pos hbt, if_pos rfl] at hR
                have r0 : wR.cell? ⟨w8.heap.size, 0, none⟩ = some (.int .i64 16) := by have := (Ms.all HMR.out).1; rw [hR] at this; exact this
                have r3 : wR.cell? ⟨w8.heap.size, 3, none⟩ = some (.int .i64 m.job) := by have := (Ms.all HMR.out).2.2.2.1; rw [hR] at this; exact this
                have r4 : wR.cell? ⟨w8.heap.size, 4, none⟩ = some (.int .i64 m.badge) := by have := (Ms.all HMR.out).2.2.2.2.1; rw [hR] at this; exact this
                obtain ⟨q0, q1, q2, q3, q4, q5, q6, q7, q8, q9, q10⟩ := HS9.out.ms.all
                have hlt2 : m.badge < T := by rw [HTT.out]; exact hbt
                clear hbt hR q1 q2 q6 q7 q8 q9 q10
                go_wp2
                go_ret
                exact ⟨rfl, HS9.out.below⟩
              · have hR := HR.out
                have hne : s.err m.job m.badge m.idx m.text ≠ 161 := by
                  rw [HERR.out.1, if_neg hbt]
                  split <;> decide
                rw [Snk.answer, if_neg hne] at hR
                have HCT := Lib.hid (HS9.out.mine.at_.fit.count m.job m.badge)
                have HTK := Lib.hid (HERR.out.2 (by omega))
                obtain ⟨ct, hct⟩ : ∃ ct, ct = (s.put m.job m.badge m.idx m.text).count m.job m.badge := ⟨_, rfl⟩
                rw [← hct] at hR HCT HTK
                have HC := Lib.hid hct
                have r0 : wR.cell? ⟨w8.heap.size, 0, none⟩ = some (.int .i64 15) := by have := (Ms.all HMR.out).1; rw [hR] at this; exact this
                have r3 : wR.cell? ⟨w8.heap.size, 3, none⟩ = some (.int .i64 m.job) := by have := (Ms.all HMR.out).2.2.2.1; rw [hR] at this; exact this
                have r4 : wR.cell? ⟨w8.heap.size, 4, none⟩ = some (.int .i64 m.badge) := by have := (Ms.all HMR.out).2.2.2.2.1; rw [hR] at this; exact this
                have r6 : wR.cell? ⟨w8.heap.size, 6, none⟩ = some (.int .i64 (ct : Int)) := by have := (Ms.all HMR.out).2.2.2.2.2.2.1; rw [hR] at this; exact this
                obtain ⟨q0, q1, q2, q3, q4, q5, q6, q7, q8, q9, q10⟩ := HS9.out.ms.all
                have hlt2 : ¬ m.badge < T := by rw [HTT.out]; exact hbt
                have HR6 := Lib.hid (And.intro (World.block_lt_of_cell? _ _ r0) (And.intro r0 r6))
                clear hbt hR q1 q2 q6 q7 q8 q9 q10 hne hct r6
                go_wp2_with fail
                refine (artefacts_any _ HS9.out.mine.at_).mono ?_
                rintro x wb ⟨vb, Lb, rfl, hab, hbb⟩
                obtain ⟨Ab, cb, rfl⟩ := own_slice hab.row
                have HLB := Lib.hid hab.len
                have HAB := Lib.hid (show SS w wb g bm nv7 (s.put m.job m.badge m.idx m.text) m nd lf ∧ ArtsOut wb wR.heap.size _ Lb (s.put m.job m.badge m.idx m.text) from ⟨HS9.out.keep hbb, hab⟩)
                have HRB' := Lib.hid (And.intro ((hbb.cell HR6.out.1).trans HR6.out.2.1) ((hbb.cell HR6.out.1).trans HR6.out.2.2))
                clear hab hbb r0 r3 r4 q0 q3 q4 q5 hlt2
                generalize s.put m.job m.badge m.idx m.text = sp at HAB HC
                go_upto_region 31 with (fail)
                go_loopw [18, 17] (fun i t wx => ∃ (k : Nat) (N : Int) (n : Nat), k ≤ Lb.length ∧ i = .int .i64 (k : Int) ∧ t = .int .i64 N ∧ wx = wb.drewN n ∧ (N = 0 ∨ N = (ct : Int)) ∧ ((∃ (j : Nat) (x : AE), j < k ∧ Lb[j]? = some x ∧ (x.1.val : Int) = m.job) → N = (ct : Int))) (fun i _ _ => Lb.length - (intOf i).toNat)
                case atStart => exact ⟨0, 0, 0, Nat.zero_le _, rfl, rfl, rfl, .inl rfl, fun ⟨j, x, h, _⟩ => by omega⟩
                case round =>
                  obtain ⟨k, N, n, hk, rfl, rfl, rfl, hT1, hT2⟩ := hrel
                  have HN := Lib.hid (And.intro hT1 hT2)
                  clear hT1 hT2
                  have hl9 := HLB.out
                  by_cases hkl : k < Lb.length
                  · obtain ⟨ge, j, b, a, na, ca, lp, he⟩ := HAB.out.2.elem HAB.out.1.mine.at_.fit hkl
                    have hA := he.addr
                    subst hA
                    have e0 : (wb.drewN n).cell? ⟨ge, k * 3, none⟩ = some (.int .i64 (j.val : Int)) := he.c0
                    have e1 : (wb.drewN n).cell? ⟨ge, k * 3 + 1, none⟩ = some (.int .i64 b) := he.c1
                    have e2 : (wb.drewN n).cell? ⟨ge, k * 3 + 2, none⟩ = some (.slice a na ca) := he.c2
                    have HE := Lib.hid he
                    have hi0 : (0 : Int) ≤ (k : Int) := by omega
                    have hi1 : (k : Int) < (Lb.length : Int) := by omega
                    clear he
                    have q3 : (wb.drewN n).cell? ⟨w.heap.size, 3, none⟩ = some (.int .i64 m.job) := (Ms.all HAB.out.1.ms).2.2.2.1
                    have q4 : (wb.drewN n).cell? ⟨w.heap.size, 4, none⟩ = some (.int .i64 m.badge) := (Ms.all HAB.out.1.ms).2.2.2.2.1
                    by_cases hj : (j.val : Int) = m.job
                    · have hjb : ((j.val : Int) == m.job) = true := by rw [beq_iff_eq]; exact hj
                      by_cases hb : b = m.badge
                      · have hbb : (b == m.badge) = true := by rw [beq_iff_eq]; exact hb
                        have hna := HE.out.len
                        have HNA := Lib.hid (show 1 + (na : Int) = (ct : Int) from by
                          have := HE.out.art
                          rw [hj, hb] at this
                          rw [HC.out]
                          unfold Snk.count
                          rw [this, hna.1]
                          simp)
                        have hn16 : na ≤ 16 := by omega
                        clear hj hb hna
                        generalize (j.val : Int) = jv at e0 hjb
                        generalize hwz : wb.drewN n = wz at *
                        go_wp2
                        go_quiet (fail)
                        go_wp2
                        go_roundw
                        case rel => exact ⟨k + 1, 1 + (na : Int), _, by omega, by go_num, by go_num, by rw [← hwz]; first | rfl | (rw [World.drewN_drewN]), .inr HNA.out, fun _ => HNA.out⟩
                        case measure => simp [intOf]; omega
                      · have hbb : (b == m.badge) = false := by rw [beq_eq_false_iff_ne]; exact hb
                        have HT2 := Lib.hid (show (N = 0 ∨ N = (ct : Int)) ∧ N = (ct : Int) from by
                          have h0 : ct = 0 := by
                            have := HE.out.art
                            rw [hj] at this
                            rw [HC.out]
                            unfold Snk.count
                            rw [this]
                            exact if_neg hb
                          refine ⟨HN.out.1, ?_⟩
                          rcases HN.out.1 with h | h
                          · rw [h, h0]; rfl
                          · exact h)
                        clear hj hb
                        generalize (j.val : Int) = jv at e0 hjb
                        generalize hwz : wb.drewN n = wz at *
                        go_wp2
                        go_quiet (fail)
                        go_wp2
                        go_roundw
                        case rel => exact ⟨k + 1, N, _, by omega, by go_num, rfl, by rw [← hwz]; first | rfl | (rw [World.drewN_drewN]), HT2.out.1, fun _ => HT2.out.2⟩
                        case measure => simp [intOf]; omega
                    · have hjb : ((j.val : Int) == m.job) = false := by rw [beq_eq_false_iff_ne]; exact hj
                      have HT2 := Lib.hid (show (N = 0 ∨ N = (ct : Int)) ∧ ((∃ (j : Nat) (x : AE), j < k + 1 ∧ Lb[j]? = some x ∧ (x.1.val : Int) = m.job) → N = (ct : Int)) from ⟨HN.out.1, fun ⟨i, x, h1, h2, h3⟩ => by
                        by_cases hik : i = k
                        · subst hik
                          obtain ⟨y, hy, hyj⟩ := HE.out.job
                          rw [h2] at hy
                          injection hy with hy
                          subst hy
                          rw [hyj] at h3
                          exact absurd h3 hj
                        · exact HN.out.2 ⟨i, x, by omega, h2, h3⟩⟩)
                      clear hj
                      generalize (j.val : Int) = jv at e0 hjb
                      generalize hwz : wb.drewN n = wz at *
                      go_wp2
                      go_quiet (fail)
                      go_wp2
                      go_roundw
                      case rel => exact ⟨k + 1, N, _, by omega, by go_num, rfl, by rw [← hwz]; first | rfl | (rw [World.drewN_drewN]), HT2.out⟩
                      case measure => simp [intOf]; omega
                  · obtain rfl : k = Lb.length := by omega
                    have HTN : N = (ct : Int) := by
                      cases ha : sp.art m.job with
                      | none =>
                        have h0 : ct = 0 := by rw [HC.out]; unfold Snk.count; rw [ha]
                        rcases HN.out.1 with h | h
                        · rw [h, h0]; rfl
                        · exact h
                      | some a =>
                        obtain ⟨i, x, h1, h2, h3⟩ := HAB.out.2.all HAB.out.1.mine.at_.fit ha
                        exact HN.out.2 ⟨i, x, h1, h2, h3⟩
                    subst HTN
                    have hi1 : ¬ (Lb.length : Int) < (Lb.length : Int) := by omega
                    have q5 : (wb.drewN n).cell? ⟨w.heap.size, 5, none⟩ = some (.int .i64 m.idx) := (Ms.all HAB.out.1.ms).2.2.2.2.2.1
                    have r0 : (wb.drewN n).cell? ⟨w8.heap.size, 0, none⟩ = some (.int .i64 15) := HRB'.out.1
                    have r6 : (wb.drewN n).cell? ⟨w8.heap.size, 6, none⟩ = some (.int .i64 (ct : Int)) := HRB'.out.2
                    have HBL := Lib.hid (below_drewN HAB.out.1.below n)
                    clear hkl HAB
                    generalize wb.drewN n = wz at q5 r0 r6 HBL ⊢
                    by_cases hx : m.idx = 0
                    · have hxb : (m.idx != 0) = false := by rw [bne_eq_false_iff_eq]; exact hx
                      have hc0 : (0 : Int) < (ct : Int) := by
                        rcases HTK.out with h | h
                        · exact absurd hx h
                        · omega
                      go_wp2
                      go_ret
                      exact ⟨by simp; omega, HBL.out⟩
                    · have hxb : (m.idx != 0) = true := by rw [bne_iff_ne]; exact hx
                      go_wp2
                      go_ret
                      exact ⟨rfl, HBL.out⟩
            · rw [if_neg hk6] at hh
              have hv : v7 = .slice none 0 0 := hh
              subst hv
              have q0 := HS7.out.ms.all.1
              have t6 : (m.kind != 6) = true := by rw [bne_iff_ne]; exact hk6
              go_wp2
              go_ret
              exact ⟨rfl, HS7.out.below⟩
          · obtain ⟨C, hC⟩ : ∃ C, C = m.check := ⟨_, rfl⟩
            have t0 : (C != 0) = true := by rw [hC, bne_iff_ne]; exact hck
            have henc : ∀ wx, Calls Tryz.prog 9 #[m.val] wx fun e w' => e = .returned (.tuple #[.string ⟨#[]⟩, .int .i64 C]) ∧ Below wx.heap.size wx w' := fun wx => by
              have := rEncode_any m wx HM.out
              rw [if_neg hck, ← hC] at this
              exact this
            have HENC := Lib.hid henc
            clear henc hck hC
            refine (HENC.out _).mono ?_
            rintro x w6 ⟨rfl, hb6⟩
            have HS6 := Lib.hid (HS5.out.keep hb6)
            clear hb6
            have p0 := HS6.out.addr.cell (j := 0) rfl
            have p1 := HS6.out.addr.cell (j := 1) rfl
            go_wp2_with fail
            refine (hear_any _ HS6.out.mine.at_ nd lf ⟨#[]⟩ (by decide) (Nat.lt_trans HNW.out (by decide))).mono ?_
            rintro x w7 ⟨v7, nv7, rfl, hs, hl, ht, hh⟩
            have HS7 := Lib.hid (HS6.out.step hs hl ht)
            rw [reply_nothing] at hh
            have hv : v7 = .slice none 0 0 := hh
            subst hv
            clear hs hl ht hh
            go_wp2
            go_ret
            exact ⟨rfl, HS7.out.below⟩

-- LIFT
set_option maxRecDepth 100000 in
theorem contract (H : Type) (enc : TypeId × Value → H) (W : World) (base : Nat) (args : Array Value) (ds gs : List (DataW H)) (before : List MemPlace)
    (hval : ∀ (j : Nat) t v, Tryz.f3.params[j]? = some t → args[j]? = some v → Value.okWide Tryz.prog W .any base t v)
    (hW : DataW.Whole enc Tryz.prog Tryz.f3.params.toList Rows.sinkSaysSpec.vars false W args.toList ds gs before) (hk : Rows.uptoSmall H (ds ++ gs) = true) :
    Calls Tryz.prog 3 args W fun e W' => ∃ v, e = .returned v ∧ Rows.sinkSaysSpec.post enc Tryz.prog Tryz.f3 false true false false W args v W' := by
  have hts : Tryz.f3.params.toList.all (fun t => Tryz.prog.readableRec t && decide (t < Tryz.prog.types.size)) = true := by kernel_rfl
  have hW' := hW
  obtain ⟨p, q, hA0, hV, rfl, hfz, hnd⟩ := hW
  have hA : DataW.TrodAll enc Tryz.prog W 0 (fun _ => true) true Tryz.f3.params.toList args.toList ds p := hA0
  rw [Tryz.params3] at hA hval
  obtain ⟨v0, vs0, d0, ds0, p0, q0, hargs, rfl, rfl, h0, r0⟩ := trodAll_cons hA
  obtain ⟨v1, vs1, d1, ds1, p1, q1, rfl, rfl, rfl, h1, r1⟩ := trodAll_cons r0
  obtain ⟨v2, vs2, d2, ds2, p2, q2, rfl, rfl, rfl, h2, r2⟩ := trodAll_cons r1
  obtain ⟨rfl, rfl, rfl⟩ := trodAll_nil r2
  obtain rfl : args = #[v0, v1, v2] := by cases args; simp_all
  obtain ⟨rfl, rfl⟩ := trodVars_none hV
  have hfn : Rows.sinkSaysSpec.fn H ([d0, d1, d2] ++ []) = { results := [.lit (.bool true)], args := [d0, d1, d2] } := rfl
  have hfin := fun W' (hbel : Below W.heap.size W W') => law_post (f := Tryz.f3) (s := Rows.sinkSaysSpec) 4 Tryz.laid hts rfl Tryz.underlying4 rfl hfn hW' hbel
  clear hA0 hts hfn
  simp only [List.append_nil] at hk
  obtain ⟨A0, c0, l0, rfl, sl0, fit0, len0⟩ := open_sops (hval 0 22 v0 rfl rfl) h0 (bulk_mem hk _ (by simp))
  obtain ⟨m1, rfl, fit1⟩ := open_msg (hval 1 27 v1 rfl rfl) h1 (bulk_mem hk _ (by simp))
  obtain ⟨x2, y2, rfl, wx2, wy2⟩ := open_addr (hval 2 29 v2 rfl rfl) h2
  exact (walk A0 c0 l0 m1 x2 y2 W sl0 fit0 (by omega) fit1).mono fun e W' ⟨he, hg⟩ => ⟨_, he, hfin W' hg⟩

set_option maxRecDepth 100000 in
theorem lifted (os : Os) (started : os.Started) (H : Type) (enc : TypeId × Value → H) (F : Stop.Interp) :
    ReturnsInHanded {} Tryz.checked os 3 .any ((Rows.OpenSpec.upto Rows.sinkSaysSpec).pre6 enc Tryz.prog Tryz.f3 Rows.sinkSaysUptoRow.domain false) (((Rows.OpenSpec.upto Rows.sinkSaysSpec).at F).post enc Tryz.prog Tryz.f3 false true false false) := by
  refine returnsInHanded_of_cond (C := Tryz.checked) (s := Rows.OpenSpec.upto Rows.sinkSaysSpec) (k := Rows.uptoSmall) rfl Tryz.own started (by kernel_rfl) Tryz.func3
    (OpenSpec.witness (enc := enc) (C := Tryz.checked) (s := Rows.OpenSpec.upto Rows.sinkSaysSpec) (k := Rows.uptoSmall) rfl false ⟨#[], #[.slice none 0 0, .agg #[.int .i64 0, .int .i64 0, .int .i64 0, .int .i64 0, .int .i64 0, .int .i64 0, .int .i64 0, .int .i64 0, .int .u64 0, .string .empty, .string .empty], .agg #[.int .i64 0, .int .i64 0]], []⟩ 8 (by kernel_rfl) (by kernel_rfl) (by kernel_rfl)
      (x := ([.nil, .agg [.lit (.int .i64 0), .lit (.int .i64 0), .lit (.int .i64 0), .lit (.int .i64 0), .lit (.int .i64 0), .lit (.int .i64 0), .lit (.int .i64 0), .agg [.lit (.int .i64 0), .lit (.int .u64 0)], .lit (.string []), .lit (.string [])], .agg [.lit (.int .i64 0), .lit (.int .i64 0)]], [], [])) (by kernel_rfl) rfl (by kernel_rfl)) ?_
  intro W base args ds gs before hval hW _ hk _
  exact contract H enc W base args ds gs before hval hW hk

theorem proved : Rows.SinkSaysUptoSaid :=
  OpenClaim.holds_of_cond 3 Tryz.f3 rfl rfl rfl rfl rfl rfl rfl ⟨rfl, rfl, rfl, rfl, rfl⟩ rfl rfl rfl rfl rfl (by kernel_rfl) Tryz.func3 (by kernel_rfl)
    (of_decide_eq_true (by kernel_rfl)) (by unfold Func.isWrapper; first | (rw [if_pos (by decide +kernel)]; kernel_rfl) | (rw [if_neg (by decide +kernel)]; exact ⟨rfl, rfl⟩))
    (fun os started H enc _ F => lifted os started H enc F)

end Go.Proofs.YtpnfdmglhonkmaaGreat.sinkSays
