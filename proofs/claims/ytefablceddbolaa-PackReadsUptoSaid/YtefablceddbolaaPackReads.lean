/- PackReads: the reader and the reference's, step by step. Condition: the arguments are together of bulk at most 1048576. -/
import Derived.Test.YtefablceddbolaaReadsRel
import Derived.Test.YtefablceddbolaaAwake
import Derived.Test.YtefablceddbolaaClose
import Derived.Test.YtefablceddbolaaOps
namespace Go.Proofs.Ytefablceddbolaa.packReads
open Go.RowKit Go.WideShapes Go.ChangeShapes Go.ChangeAt
open Go.ChangeMaps (open_string shut_string)

theorem info_split {o : Option TypeInfo} {z : Value} {s b : Nat} (h : (o.map fun i => (i.zero, i.size, i.bytes)) = some (some z, s, b)) : ∃ i, o = some i ∧ i.zero = some z ∧ i.size = s ∧ i.bytes = b := by
  cases o with
  | none => cases h
  | some i =>
    simp at h
    exact ⟨i, rfl, h.1, h.2.1, h.2.2⟩

theorem info_ptr : ∃ i, Try.prog.info? 38 = some i ∧ i.zero = some (.pointer none) ∧ i.size = 1 ∧ i.bytes = 8 := info_split (by kernel_rfl)
theorem info_ref : ∃ i, Try.prog.info? 55 = some i ∧ i.zero = some (.agg #[.string ⟨#[]⟩, .int .i64 0, .int .i64 0, .int .i64 0]) ∧ i.size = 4 ∧ i.bytes = 40 := info_split (by kernel_rfl)

theorem refs_one (b : ByteArray) (x y z : Int) : ∀ u ∈ (#[.string b, .int .i64 x, .int .i64 y, .int .i64 z] : Array Value).toList, u.oneCell' = true := by
  intro u hu
  simp at hu
  rcases hu with rfl | rfl | rfl | rfl <;> rfl

set_option maxHeartbeats 4000000 in
set_option maxRecDepth 100000 in
theorem walk (b : ByteArray) (A : Option Addr) (n c : Nat) (l : List (Int × Int)) (w : World) (hb : b.size < 1048577) (hsl : Sl w w.heap.size 2 A n (opCell l)) (hfit : Fits l) (hn : n < 1048577) :
    Calls Try.prog 8 #[.string b, .slice A n c] w fun e w' => e = .returned (.bool true) ∧ Below w.heap.size w w' := by
  have HSL := Lib.hid hsl
  clear hsl
  obtain ⟨i0, hi, hz0, hz1, hzp⟩ := info_ptr
  obtain ⟨i4, hi4, hz40, hz41, hz42⟩ := info_ref
  go_enter Try.func8, Try.ntmps8
  go_wp2_with fail
  refine (read_any _ _).mono ?_
  rintro e w1 ⟨rfl, hR1, hb1, hs1⟩
  have HS := Lib.hid hs1
  clear hs1
  go_wp2_with fail
  refine (awake_any _).mono ?_
  rintro e w2 ⟨rfl, hb2⟩
  have hpc : w2.cell? ⟨w1.heap.size, 0, none⟩ = some (.pointer (some ⟨w.heap.size, 0, none⟩)) := (hb2.cell (p := ⟨w1.heap.size, 0, none⟩) (by simp)).trans ((World.cell?_alloc_mark w1 #[.pointer (some ⟨w.heap.size, 0, none⟩)] 38 (0, 0) 0).trans rfl)
  go_wp2
  have hz2 : w1.heap.size < w2.heap.size := by have := hb2.size; simp at this; omega
  have hB2 : Below w.heap.size w w2 := (hb1.alloc hb1.size _).trans (hb2.mono (by have := hb1.size; simp; omega))
  have hrs : RS (w2.alloc (.cells #[.string b, .int .i64 0, .int .i64 0, .int .i64 0] 55)) w.heap.size b (.slice (some ⟨w1.heap.size, 0, none⟩) 1 1) (.slice (some ⟨w2.heap.size, 0, none⟩) 1 1) [(w.heap.size, 0, 0)] := by
    refine RS.start ?_ hb1.size ((hR1.alloc _).below hb2 (by have := HS.out; simp; omega)) (Nat.le_refl _) hB2.size
    exact (hb2.block w1.heap.size (by simp)).trans (heap_alloc_new _ _)
  have hB3 := hB2.alloc hB2.size (.cells #[.string b, .int .i64 0, .int .i64 0, .int .i64 0] 55)
  generalize w2.alloc (.cells #[.string b, .int .i64 0, .int .i64 0, .int .i64 0] 55) = w3 at hrs hB3 ⊢
  go_loopw [5, 6, 7, 8] (fun pv rv av i wr => ∃ (k at_ : Nat) (S : List (Nat × Nat × Int)), k ≤ n ∧ i = .int .i64 (k : Int) ∧ av = .int .i64 (at_ : Int) ∧ at_ < S.length ∧ S.length ≤ k + 1 ∧ RS wr w.heap.size b pv rv S ∧ Below w.heap.size w wr) (fun _ _ _ i _ => n - (intOf i).toNat)
  case atStart => exact ⟨0, 0, _, Nat.zero_le _, rfl, rfl, by simp, by simp, hrs, hB3⟩
  case round =>
    obtain ⟨k, at_, S, hk, rfl, rfl, hat, hSl, hRS, hBr⟩ := hrel
    have hz := hBr.size
    obtain ⟨_, hS0⟩ | ⟨g5, cap5, rfl, hc5⟩ := own_shape hRS.own5
    · omega
    obtain ⟨_, hS0⟩ | ⟨g6, cap6, rfl, hc6⟩ := own_shape hRS.own6
    · omega
    by_cases hlt1 : k < n
    · obtain ⟨blk, off, rfl, hbb, hc⟩ := HSL.out (by omega)
      have q0 := (hBr.cell (p := ⟨blk, off + k * 2, none⟩) hbb).trans (hc (k * 2) (by omega))
      have q1 := (hBr.cell (p := ⟨blk, off + (k * 2 + 1), none⟩) hbb).trans (hc (k * 2 + 1) (by omega))
      rw [opCell0] at q0
      rw [opCell1, show off + (k * 2 + 1) = off + k * 2 + 1 from by omega] at q1
      obtain ⟨kd, hkd⟩ : ∃ kd, kd = (l.getD k (0, 0)).1 := ⟨_, rfl⟩
      obtain ⟨nn, hnn⟩ : ∃ nn, nn = (l.getD k (0, 0)).2 := ⟨_, rfl⟩
      have hnf := hfit k
      rw [← hkd] at q0
      rw [← hnn] at q1 hnf
      clear hc hkd hnn
      obtain ⟨⟨gA, pA, eA⟩, hA⟩ : ∃ s, S[at_]? = some s := ⟨S[at_], List.getElem?_eq_getElem hat⟩
      have p0 := hRS.own5.cellAt at_ (by omega)
      rw [List.getElem?_map, hA] at p0
      have p0 : wr.cell? ⟨g5, at_, none⟩ = some (.pointer (some ⟨gA, 0, none⟩)) := p0
      have hAr := hRS.ref hA
      have hAd := (hRS.rd at_ _ hA).1
      have hBs := (Below.refl wr.heap.size wr).alloc (Nat.le_refl _) (.cells #[.int .i64 kd, .int .i64 nn] 51)
      have p1 := (hBs.cell (p := ⟨g5, at_, none⟩) (World.block_lt_of_cell? wr _ p0)).trans p0
      have HRS := Lib.hid hRS
      by_cases k5 : kd = 5
      · subst k5
        have ho : (wr.alloc (.cells #[.int .i64 5, .int .i64 nn] 51)).heap[wr.heap.size]? = some (.cells #[.int .i64 5, .int .i64 nn] 51 (0, 0)) := heap_alloc_new _ _
        have hRS1 := hRS.alloc hz (.cells #[.int .i64 5, .int .i64 nn] 51)
        go_wp2_with fail
        refine (rclone_any gA b pA eA _ (hAd.alloc _)).mono ?_
        rintro x w4 ⟨rfl, hR4, hb4, hs4⟩
        have HS4 := Lib.hid hs4
        clear hs4
        have ho4 := own_kept hRS1.own5 hb4
        have H4 : Hid (∀ pv' w5, w4.grownBy w5 (Value.slice (some ⟨g5, 0, none⟩) S.length cap5).ownBlock → w5.ownsRow w.heap.size 38 1 pv' (S.length + 1) (S.map ptrOf ++ [ptrOf (wr.heap.size + 1, pA, eA)]) →
            RS1 w5 w.heap.size b pv' (.slice (some ⟨g6, 0, none⟩) S.length cap6) S (wr.heap.size + 1, pA, eA) ∧ w5.heap[wr.heap.size]? = some (.cells #[.int .i64 5, .int .i64 nn] 51 (0, 0))) := by
          refine Lib.hid fun pv' w5 hg5 ho5 => ⟨hRS1.grow1 hb4 (by simp) (by simp; omega) (by simpa using hR4) (hRS.rd at_ _ hA).2.2 hg5 ho5, ?_⟩
          have hx := (hb4.block wr.heap.size (by simp)).trans ho
          refine (hg5.block _ (lt_of_block hx) ?_).trans hx
          intro he
          obtain ⟨c5, h5⟩ := own_block_type ho4 he.symm
          exact block_ne hx h5 (by decide) rfl
        have hz4 : w.heap.size ≤ w4.heap.size := by have := HS4.out; simp at this; omega
        clear hRS1 hRS
        have tm1 : -((S.length : Int) + 1) < nn.tmod (↑S.length + 1) := by
          have := Int.natAbs_tmod nn (↑S.length + 1)
          have h2 : nn.natAbs % ((S.length : Int) + 1).natAbs < ((S.length : Int) + 1).natAbs := Nat.mod_lt _ (by omega)
          omega
        have tm2 : nn.tmod (↑S.length + 1) < (S.length : Int) + 1 := Int.tmod_lt_of_pos _ (by omega)
        go_wp2_with (first
          | (at_builtin; refine wpList_append_one rfl (.tmp 38) (.tmp 44) 53 rfl w.heap.size 38 i0 (.pointer none) 8 Try.underlying53 hi hz0 hz1 hzp rfl _ _ _ rfl ho4 _ rfl rfl (by omega) (by decide) hz4 ?_; intro pv' w5 ho5 hb5 hg5; obtain ⟨H5, ho5'⟩ := H4.out pv' w5 hg5 ho5; have hz5 := Nat.le_trans hz4 hb5.size; obtain ⟨c0, c1, c2, c3⟩ := H5.cells hA; (obtain ⟨_, hn0⟩ | ⟨g5', cap5', rfl, hc5'⟩ := own_shape ho5; (exfalso; omega)))
          | (at_builtin; refine wpList_append_elem rfl (.tmp 46) (.tmp 51) 56 rfl w.heap.size 55 i4 _ 4 40 Try.underlying56 hi4 hz40 hz41 hz42 rfl (by decide) _ _ _ rfl H5.own6 _ rfl (refs_one _ _ _ _) rfl (by omega) (by decide) hz5 ?_; intro rv' w6 ho6 hb6 hg6; have H6 := H5.grow2 hg6 ho6; (obtain ⟨_, hn0⟩ | ⟨g6', cap6', rfl, hc6'⟩ := own_shape ho6; (exfalso; omega)); have ho6' := (hg6.block _ (lt_of_block ho5') (H5.ne6 ho5')).trans ho5'; have m1 := cell_of_row (j := 1) ho6' rfl; have m2 := H6.pLast))
        all_goals
          have hL : (S ++ [(wr.heap.size + 1, pA, eA)]).length = S.length + 1 := by simp
          obtain ⟨aa, ha, haL⟩ : ∃ aa : Nat, ((aa : Int) = nn.tmod (↑S.length + 1) + (↑S.length + 1) ∧ nn.tmod (↑S.length + 1) < 0 ∨ (aa : Int) = nn.tmod (↑S.length + 1) ∧ 0 ≤ nn.tmod (↑S.length + 1)) ∧ aa < S.length + 1 := by
            by_cases h0 : nn.tmod (↑S.length + 1) < 0
            · exact ⟨(nn.tmod (↑S.length + 1) + (↑S.length + 1)).toNat, .inl ⟨by omega, h0⟩, by omega⟩
            · exact ⟨(nn.tmod (↑S.length + 1)).toNat, .inr ⟨by omega, by omega⟩, by omega⟩
          rcases ha with ⟨ha, hneg⟩ | ⟨ha, hneg⟩
          all_goals first | (exfalso; omega) | skip
          all_goals
            rw [← ha]
            have HA' := Lib.hid ha
            clear ha tm1 tm2 hneg
            obtain ⟨⟨gB, pB, eB⟩, hA'⟩ : ∃ s, (S ++ [(wr.heap.size + 1, pA, eA)])[aa]? = some s := ⟨_, List.getElem?_eq_getElem (by omega)⟩
            obtain ⟨HD, HK, HS⟩ := at_region H6 hA' 5 nn hnf hb hL.symm hL.symm (Nat.le_trans hz5 hb6.size) wr.heap.size ho6'
            have p1 := (RS.p (by rw [hL]; exact H6) hA' : w6.cell? ⟨g5', aa, none⟩ = some (.pointer (some ⟨gB, 0, none⟩)))
            have o0 := cell_of_row (j := 0) ho6' rfl
            have hob : wr.heap.size < w6.heap.size := lt_of_block ho6'
            have hi1 : (0 : Int) ≤ (aa : Int) := by omega
            have hi2 : (aa : Int) < (S.length : Int) + 1 := by omega
            go_region_held3 (fun w' => w'.cell? ⟨g5', aa, none⟩ = some (.pointer (some ⟨gB, 0, none⟩)) ∧ w'.cell? ⟨wr.heap.size, 0, none⟩ = some (.int .i64 5) ∧ w'.cell? ⟨wr.heap.size, 1, none⟩ = some (.int .i64 nn))
              ((first | exact ⟨p1, o0, m1⟩ | assumption | exact HK.out _ (by assumption)))
              (first
                | (go_at_call 28; refine HD.out.mono ?_; rintro x wa ⟨rfl, q, f, hq, hRq, hFq, hBq⟩)
                | (go_at_call 29; refine (same_any gB g6' (aa * 4) b q f _ (by assumption) (by assumption) (by assumption) (by omega)).mono ?_; rintro x wb ⟨rfl, n1, rfl⟩))
            have hset2 : ((S ++ [(wr.heap.size + 1, pA, eA)]).set aa (gB, q, f)).length = S.length + 1 := by rw [List.length_set, hL]
            have hset : aa < ((S ++ [(wr.heap.size + 1, pA, eA)]).set aa (gB, q, f)).length := by rw [hset2]; exact haL
            obtain ⟨hRS', hB'⟩ := HS.out _ _ _ hBq hRq hFq hq
            have hBw : Below w.heap.size w wa := ((((hBr.alloc hz _).trans (hb4.mono (by simp; omega))).trans hb5).trans (hb6.trans hB'))
            clear H6 HD HK HS hBq
            go_wp2
            go_roundw
            case rel => exact ⟨k + 1, aa, _, by omega, by go_num, rfl, hset, by omega, hRS'.drewN _, below_drewN hBw _⟩
            case measure => simp [intOf]; omega
      · have t5 : (kd == 5) = false := by rw [beq_eq_false_iff_ne]; exact k5
        obtain ⟨W, hW⟩ : ∃ W, W = wr.alloc (.cells #[.int .i64 kd, .int .i64 nn] 51) := ⟨_, rfl⟩
        have HW := Lib.hid hW
        rw [← hW] at hBs p1
        have o0 : W.cell? ⟨wr.heap.size, 0, none⟩ = some (.int .i64 kd) := by rw [hW]; exact (World.cell?_alloc_mark wr _ _ (0, 0) 0).trans rfl
        have o1 : W.cell? ⟨wr.heap.size, 1, none⟩ = some (.int .i64 nn) := by rw [hW]; exact (World.cell?_alloc_mark wr _ _ (0, 0) 1).trans rfl
        have hRW : RS W w.heap.size b (.slice (some ⟨g5, 0, none⟩) S.length cap5) (.slice (some ⟨g6, 0, none⟩) S.length cap6) S := by rw [hW]; exact hRS.alloc hBr.size _
        have hob : wr.heap.size < W.heap.size := by rw [hW]; simp
        clear hW
        obtain ⟨HD, HK, HS⟩ := at_region hRW hA kd nn hnf hb rfl rfl (by omega) wr.heap.size (by rw [HW.out]; exact heap_alloc_new _ _)
        go_wp2_with fail
        rw [← HW.out]
        clear hRS p0
        go_region_held3 (fun w' => w'.cell? ⟨g5, at_, none⟩ = some (.pointer (some ⟨gA, 0, none⟩)) ∧ w'.cell? ⟨wr.heap.size, 0, none⟩ = some (.int .i64 kd) ∧ w'.cell? ⟨wr.heap.size, 1, none⟩ = some (.int .i64 nn))
          ((first | exact ⟨p1, o0, o1⟩ | assumption | exact HK.out _ (by assumption)))
          (first
            | (go_at_call 28; refine HD.out.mono ?_; rintro x wa ⟨rfl, q, f, hq, hRq, hFq, hBq⟩)
            | (go_at_call 29; refine (same_any gA g6 (at_ * 4) b q f _ (by assumption) (by assumption) (by assumption) (by omega)).mono ?_; rintro x wb ⟨rfl, n1, rfl⟩))
        have hset : at_ < (S.set at_ (gA, q, f)).length := by rw [List.length_set]; exact hat
        have hset2 : (S.set at_ (gA, q, f)).length = S.length := List.length_set
        obtain ⟨hRS', hB'⟩ := HS.out _ _ _ hBq hRq hFq hq
        have hBw : Below w.heap.size w wa := (hBr.alloc hz _).trans (by rw [← HW.out]; exact hB')
        clear hRW HD HK HS hBq
        go_wp2
        go_roundw
        case rel => exact ⟨k + 1, at_, _, by omega, by go_num, rfl, hset, by omega, hRS'.drewN _, below_drewN hBw _⟩
        case measure => simp [intOf]; omega
    · have hkn : k = n := by omega
      subst hkn
      go_wp2
      go_loopw [10] (fun i wx => ∃ j m : Nat, j ≤ S.length ∧ i = .int .i64 (j : Int) ∧ wx = wr.drewN m) (fun i _ => S.length - (intOf i).toNat)
      case atStart => exact ⟨0, 0, Nat.zero_le _, rfl, rfl⟩
      case round =>
        obtain ⟨j, m, hj, rfl, rfl⟩ := hrel
        by_cases hlj : j < S.length
        · obtain ⟨⟨gA, pA, eA⟩, hA⟩ : ∃ s, S[j]? = some s := ⟨S[j], List.getElem?_eq_getElem hlj⟩
          have hRm := hRS.drewN m
          have p0 := hRm.p hA
          have hsame := fun wx (h1 : Rdr wx gA b pA eA) (h2 : Ref wx g6 (j * 4) b pA eA (fa eA pA)) => same_any gA g6 (j * 4) b pA eA wx h1 h2 (hRS.rd j _ hA).2.2 (by omega)
          have h1 := (hRS.rd j _ hA).1
          have h2 := hRS.ref hA
          have HRS := Lib.hid hRS
          clear hRS hRm
          have g1 := h1.drewN m
          have g2 : Ref (wr.drewN m) g6 (j * 4) b pA eA (fa eA pA) := h2
          obtain ⟨wx, hwx⟩ : ∃ wx, wx = wr.drewN m := ⟨_, rfl⟩
          have HWX := Lib.hid hwx
          rw [← hwx] at p0 g1 g2 ⊢
          clear hwx h1 h2
          go_wp2
          go_quiet ((go_at_call 29; refine Calls.quiet_of (hsame _ (g1.drewN _) g2)))
          go_wp2
          rw [HWX.out]
          go_roundw
          case rel => exact ⟨j + 1, _, by omega, by go_num, World.drewN_drewN _ _ _⟩
          case measure => simp [intOf]; omega
        · have hjn : j = S.length := by omega
          subst hjn
          go_wp2
          go_ret
          exact ⟨rfl, below_drewN hBr _⟩

-- LIFT
set_option maxRecDepth 100000 in
theorem contract (H : Type) (enc : TypeId × Value → H) (W : World) (base : Nat) (args : Array Value) (ds gs : List (DataW H)) (before : List MemPlace)
    (hval : ∀ (j : Nat) t v, Try.f8.params[j]? = some t → args[j]? = some v → Value.okWide Try.prog W .any base t v)
    (hW : DataW.Whole enc Try.prog Try.f8.params.toList Rows.packReadsSpec.vars false W args.toList ds gs before) (hk : Rows.uptoSmall H (ds ++ gs) = true) :
    Calls Try.prog 8 args W fun e W' => ∃ v, e = .returned v ∧ Rows.packReadsSpec.post enc Try.prog Try.f8 false true false false W args v W' := by
  have hts : Try.f8.params.toList.all (fun t => Try.prog.readableRec t && decide (t < Try.prog.types.size)) = true := by kernel_rfl
  have hW' := hW
  obtain ⟨p, q, hA0, hV, rfl, hfz, hnd⟩ := hW
  have hA : DataW.TrodAll enc Try.prog W 0 (fun _ => true) true Try.f8.params.toList args.toList ds p := hA0
  rw [Try.params8] at hA hval
  obtain ⟨v0, vs0, d0, ds0, p0, q0, hargs, rfl, rfl, h0, r0⟩ := trodAll_cons hA
  obtain ⟨v1, vs1, d1, ds1, p1, q1, rfl, rfl, rfl, h1, r1⟩ := trodAll_cons r0
  obtain ⟨rfl, rfl, rfl⟩ := trodAll_nil r1
  obtain rfl : args = #[v0, v1] := by cases args; simp_all
  obtain ⟨rfl, rfl⟩ := trodVars_none hV
  have hfn : Rows.packReadsSpec.fn H ([d0, d1] ++ []) = { results := [.lit (.bool true)], args := [d0, d1] } := rfl
  have hfin := fun W' (hbel : Below W.heap.size W W') => law_post (f := Try.f8) (s := Rows.packReadsSpec) 4 Try.laid hts rfl Try.underlying4 rfl hfn hW' hbel
  clear hA0 hts hfn
  obtain ⟨s0, rfl, rfl, rfl, w0⟩ := open_string Try.underlying9 (hval 0 9 v0 rfl rfl) h0
  simp only [List.append_nil] at hk
  have b0 : s0.size < 1048576 := bulk_string (bulk_mem hk _ (by simp))
  obtain ⟨A1, n1, c1, l1, rfl, sl1, fit1, len1, m1⟩ := open_ops Try.underlying48 Try.underlying51 (by kernel_rfl) rfl rfl (by kernel_rfl) (by kernel_rfl) Try.underlying3 Try.underlying3 (hval 1 48 v1 rfl rfl) h1 (bulk_mem hk _ (by simp))
  exact (walk s0 A1 n1 c1 l1 W (by omega) sl1 fit1 (by omega)).mono fun e W' ⟨he, hg⟩ => ⟨_, he, hfin W' hg⟩

set_option maxRecDepth 100000 in
theorem lifted (os : Os) (started : os.Started) (H : Type) (enc : TypeId × Value → H) (F : Stop.Interp) :
    ReturnsInHanded {} Try.checked os 8 .any ((Rows.OpenSpec.upto Rows.packReadsSpec).pre6 enc Try.prog Try.f8 Rows.packReadsUptoRow.domain false) (((Rows.OpenSpec.upto Rows.packReadsSpec).at F).post enc Try.prog Try.f8 false true false false) := by
  refine returnsInHanded_of_cond (C := Try.checked) (s := Rows.OpenSpec.upto Rows.packReadsSpec) (k := Rows.uptoSmall) rfl Try.own started (by kernel_rfl) Try.func8
    (OpenSpec.witness (enc := enc) (C := Try.checked) (s := Rows.OpenSpec.upto Rows.packReadsSpec) (k := Rows.uptoSmall) rfl false ⟨#[], #[.string .empty, .slice none 0 0], []⟩ 8 (by kernel_rfl) (by kernel_rfl) (by kernel_rfl)
      (x := ([.lit (.string []), .nil], [], [])) (by kernel_rfl) rfl (by kernel_rfl)) ?_
  intro W base args ds gs before hval hW _ hk _
  exact contract H enc W base args ds gs before hval hW hk

theorem proved : Rows.PackReadsUptoSaid :=
  OpenClaim.holds_of_cond 8 Try.f8 rfl rfl rfl rfl rfl rfl rfl ⟨rfl, rfl, rfl, rfl, rfl⟩ rfl rfl rfl rfl rfl (by kernel_rfl) Try.func8 (by kernel_rfl)
    (of_decide_eq_true (by kernel_rfl)) (by unfold Func.isWrapper; first | (rw [if_pos (by decide +kernel)]; kernel_rfl) | (rw [if_neg (by decide +kernel)]; exact ⟨rfl, rfl⟩))
    (fun os started H enc _ F => lifted os started H enc F)

end Go.Proofs.Ytefablceddbolaa.packReads
