/- ProgPlaces: what is wrong with a program is told of its first wrong instruction: those ahead of it, with instructions that do nothing behind them, make a program that may be: as a row and as a card. -/
import Derived.Test.YtiidkgdlngcpgaaGreatDoorPv
set_option maxRecDepth 100000
namespace Go.Proofs.YtiidkgdlngcpgaaGreatDoor.progPlaces
open Go.RowKit Go.WideShapes Go.ChangeShapes Go.ChangeAt Ieee

theorem codeWrong_told {many : Nat} : ∀ (l : List Ins) (i0 : Nat), (codeWrong many l i0).1 ≠ 0 → ∃ k, k < l.length ∧ (codeWrong many l i0).2 = i0 + k ∧ ∀ (j : Nat) (x : Ins), j < k → l[j]? = some x → insWrong x many = 0
  | [], i0, h => by simp [codeWrong] at h
  | x :: l, i0, h => by
    rw [codeWrong] at h ⊢
    by_cases hx : insWrong x many = 0
    · rw [if_neg (fun hh => hh hx)] at h ⊢
      obtain ⟨k, h1, h2, h3⟩ := codeWrong_told l (i0 + 1) h
      refine ⟨k + 1, by simpa using h1, by omega, fun j y hj hy => ?_⟩
      rcases j with _ | j
      · have : x = y := by simpa using hy
        rw [← this]; exact hx
      · exact h3 j y (by omega) (by simpa using hy)
    · rw [if_pos hx] at h ⊢
      exact ⟨0, by simp, rfl, fun j y hj => by omega⟩
theorem codeWrong_fine {many : Nat} : ∀ (l : List Ins) (i0 : Nat), (∀ x ∈ l, insWrong x many = 0) → codeWrong many l i0 = (0, 0)
  | [], i0, _ => by simp [codeWrong]
  | x :: l, i0, h => by
    rw [codeWrong, if_neg (fun hh => hh (h x (by simp)))]
    exact codeWrong_fine l (i0 + 1) fun y hy => h y (List.mem_cons_of_mem _ hy)
def haltI : Ins := ⟨24, 0, 0, 0, 0, 0⟩
theorem halt_ok (many : Nat) : insWrong haltI many = 0 := by
  have h1 : fcan 0 = 0 := by decide
  unfold insWrong haltI
  simp [opRegs, opN, opK, regBad, h1]
/-- the instructions ahead of a place, then those that do nothing -/
def qAt (l : List Ins) (at_ j : Nat) : Ins := if j < at_ then l.getD j haltI else haltI
def qTo (l : List Ins) (at_ i : Nat) : List Ins := (List.range i).map (qAt l at_)
theorem qTo_succ (l : List Ins) (at_ i : Nat) : qTo l at_ (i + 1) = qTo l at_ i ++ [qAt l at_ i] := by simp [qTo, List.range_succ]
theorem qTo_len (l : List Ins) (at_ i : Nat) : (qTo l at_ i).length = i := by simp [qTo]
theorem places_plain {fuel : Int} {l : List Ins} (h0 : (progCheck fuel l).1 ≠ 0) (h1 : (progCheck fuel l).1 ≠ 56) (h2 : (progCheck fuel l).1 ≠ 50) :
    (progCheck fuel l).2 < l.length ∧ l.length ≤ 64 ∧ progCheck fuel (qTo l (progCheck fuel l).2 l.length) = (0, 0) := by
  unfold progCheck at h0 h1 h2
  by_cases c1 : fuel < 1 ∨ 1024 < fuel
  · rw [if_pos c1] at h1; exact absurd rfl h1
  by_cases c2 : l.length < 1 ∨ 64 < l.length
  · rw [if_neg c1, if_pos c2] at h2; exact absurd rfl h2
  rw [if_neg c1, if_neg c2] at h0
  obtain ⟨k, k1, k2, k3⟩ := codeWrong_told l 0 h0
  have e : (progCheck fuel l).2 = k := by unfold progCheck; rw [if_neg c1, if_neg c2, k2]; omega
  rw [e]
  refine ⟨k1, by omega, ?_⟩
  unfold progCheck
  rw [qTo_len, if_neg c1, if_neg c2]
  refine codeWrong_fine _ 0 fun x hx => ?_
  unfold qTo at hx
  obtain ⟨j, hj, rfl⟩ := List.mem_map.1 hx
  unfold qAt
  split
  · rename_i hlt
    rw [List.mem_range] at hj
    rw [List.getD_eq_getElem?_getD, List.getElem?_eq_getElem hj]
    exact k3 j _ hlt (List.getElem?_eq_getElem hj)
  · exact halt_ok _
theorem ins_range (x : Ins) (many : Nat) : insWrong x many ≠ 56 ∧ insWrong x many ≠ 50 := by
  unfold insWrong regBad
  repeat' split
  all_goals (constructor <;> decide)
theorem code_at {many : Nat} : ∀ (l : List Ins) (i0 : Nat), ((codeWrong many l i0).1 = 0 ∨ (codeWrong many l i0).1 = 56 ∨ (codeWrong many l i0).1 = 50) → (codeWrong many l i0).2 = 0
  | [], i0, _ => by simp [codeWrong]
  | x :: l, i0, h => by
    rw [codeWrong] at h ⊢
    by_cases hx : insWrong x many = 0
    · rw [if_neg (fun hh => hh hx)] at h ⊢
      exact code_at l (i0 + 1) h
    · rw [if_pos hx] at h ⊢
      rcases h with h | h | h
      · exact absurd h hx
      · exact absurd h (ins_range x many).1
      · exact absurd h (ins_range x many).2
theorem check_at {fuel : Int} {l : List Ins} (h : (progCheck fuel l).1 = 0 ∨ (progCheck fuel l).1 = 56 ∨ (progCheck fuel l).1 = 50) : (progCheck fuel l).2 = 0 := by
  unfold progCheck at h ⊢
  by_cases c1 : fuel < 1 ∨ 1024 < fuel
  · rw [if_pos c1]
  by_cases c2 : l.length < 1 ∨ 64 < l.length
  · rw [if_neg c1, if_pos c2]
  rw [if_neg c1, if_neg c2] at h ⊢
  exact code_at l 0 h

set_option maxHeartbeats 8000000 in
set_option maxRecDepth 100000 in
theorem walk {fuel : Int} {A : Option Addr} {l : List Ins} {cap : Nat} (w : World) (hC : CodeIn w w.heap.size A l) (hA : AllAt w) :
    Calls Tryz.prog 11 #[.agg #[.int .i64 fuel, .slice A l.length cap]] w fun e w' => e = .returned (.bool true) ∧ Below w.heap.size w w' := by
  have HX := Lib.hid (Cells.new w 24 #[.int .i64 fuel, .slice A l.length cap])
  have HB := Lib.hid ((Below.refl w.heap.size w).alloc (Nat.le_refl _) (.cells #[.int .i64 fuel, .slice A l.length cap] 24))
  have x0 := HX.out.cell (j := 0) rfl
  have x1 := HX.out.cell (j := 1) rfl
  have HKA : Hid (∀ W, Below w.heap.size w W → Calls Tryz.prog 14 #[] W fun e w' => e = .returned (.bool true) ∧ Below W.heap.size W w') := Lib.hid fun W hW => awake_any W (hA.keep hW)
  have HK1 : Hid (∀ W, Below w.heap.size w W → Calls Tryz.prog 12 #[.agg #[.int .i64 fuel, .slice A l.length cap]] W fun e w' => e = .returned (.tuple #[.int .i64 (progCheck fuel l).1, .int .i64 ((progCheck fuel l).2 : Nat)]) ∧ Below W.heap.size W w') := Lib.hid fun W hW => check_any fuel A l cap W ((hC.keep hW).more hW.size)
  have HCA := Lib.hid (@check_at fuel l)
  have HPL := Lib.hid (@places_plain fuel l)
  have HQC : Hid (∀ (W : World) (Aq : Option Addr) (cq : Nat) (q : List Ins), CodeIn W W.heap.size Aq q → progCheck fuel q = (0, 0) → Calls Tryz.prog 12 #[.agg #[.int .i64 fuel, .slice Aq q.length cq]] W fun e w' => e = .returned (.tuple #[.int .i64 0, .int .i64 0]) ∧ Below W.heap.size W w') := Lib.hid fun W Aq cq q hq h0 => by
    have k := check_any fuel Aq q cq W hq
    rw [h0] at k
    exact k
  have HCC := Lib.hid hC
  have HKK := Lib.hid (code_k hC)
  clear hC hA
  obtain ⟨er, her⟩ : ∃ er, (progCheck fuel l).1 = er := ⟨_, rfl⟩
  obtain ⟨at_, hat⟩ : ∃ at_, (progCheck fuel l).2 = at_ := ⟨_, rfl⟩
  rw [her, hat] at HK1 HCA HPL
  clear her hat
  obtain ⟨len, hlen⟩ : ∃ len, l.length = len := ⟨_, rfl⟩
  have HLEN := Lib.hid hlen
  rw [hlen] at HX HB HK1 HPL x0 x1 ⊢
  clear hlen
  have ta : ¬ (at_ : Int) < 0 := by omega
  go_enter Tryz.func11, Tryz.ntmps11
  by_cases hs : er = 0 ∨ er = 56 ∨ er = 50 ∨ at_ = 0
  · have h0 : at_ = 0 := by
      rcases hs with h | h | h | h
      · exact HCA.out (.inl h)
      · exact HCA.out (.inr (.inl h))
      · exact HCA.out (.inr (.inr h))
      · exact h
    subst h0
    have hway : (er == 0) = true ∨ ((er == 0) = false ∧ (er == 56) = true) ∨ ((er == 0) = false ∧ (er == 56) = false ∧ (er == 50) = true) ∨ ((er == 0) = false ∧ (er == 56) = false ∧ (er == 50) = false) := by
      cases h1 : (er == 0) <;> cases h2 : (er == 56) <;> cases h3 : (er == 50) <;> simp
    clear hs HCA HPL
    rcases hway with b0 | ⟨b0, b1⟩ | ⟨b0, b1, b2⟩ | ⟨b0, b1, b2⟩
    all_goals go_wp2_with (first | (go_at_call 12; refine (HK1.out _ HB.out).mono ?_; rintro _ wn ⟨rfl, hb⟩; have HX := Lib.hid (HX.out.keep hb); have x0 := HX.out.cell (j := 0) rfl; have x1 := HX.out.cell (j := 1) rfl; have HB := Lib.hid (grow_to HB.out hb); clear hb) | (go_at_call 14; refine (HKA.out _ HB.out).mono ?_; rintro _ wn ⟨rfl, hb⟩; have HX := Lib.hid (HX.out.keep hb); have x0 := HX.out.cell (j := 0) rfl; have x1 := HX.out.cell (j := 1) rfl; have HB := Lib.hid (grow_to HB.out hb); clear hb))
    all_goals go_ret
    all_goals exact ⟨by first | rfl | simp, HB.out⟩
  · have c0 : er ≠ 0 := fun h => hs (.inl h)
    have c1 : er ≠ 56 := fun h => hs (.inr (.inl h))
    have c2 : er ≠ 50 := fun h => hs (.inr (.inr (.inl h)))
    have c3 : at_ ≠ 0 := fun h => hs (.inr (.inr (.inr h)))
    obtain ⟨p1, p2, p3⟩ := HPL.out c0 c1 c2
    have HP3 := Lib.hid p3
    have HP2 := Lib.hid p2
    have b0 : (er == 0) = false := by rw [beq_eq_false_iff_ne]; exact c0
    have b1 : (er == 56) = false := by rw [beq_eq_false_iff_ne]; exact c1
    have b2 : (er == 50) = false := by rw [beq_eq_false_iff_ne]; exact c2
    have b3 : ((at_ : Int) == 0) = false := by rw [beq_eq_false_iff_ne]; omega
    have b4 : ¬ (len : Int) ≤ at_ := by omega
    obtain ⟨i0, hi, hz0, hz1, hz2⟩ := info_parts ins_info
    clear hs c0 c1 c2 c3 HPL HCA p3
    go_upto_region 9 with (first | (go_at_call 12; refine (HK1.out _ HB.out).mono ?_; rintro _ wn ⟨rfl, hb⟩; have HX := Lib.hid (HX.out.keep hb); have x0 := HX.out.cell (j := 0) rfl; have x1 := HX.out.cell (j := 1) rfl; have HB := Lib.hid (grow_to HB.out hb); clear hb) | (go_at_call 14; refine (HKA.out _ HB.out).mono ?_; rintro _ wn ⟨rfl, hb⟩; have HX := Lib.hid (HX.out.keep hb); have x0 := HX.out.cell (j := 0) rfl; have x1 := HX.out.cell (j := 1) rfl; have HB := Lib.hid (grow_to HB.out hb); clear hb))
    have e4 : decide (len ≤ at_) = false := decide_eq_false (by omega)
    simp only [e4]
    clear e4
    have HAL := Lib.hid ((Below.refl wn.heap.size wn).alloc (Nat.le_refl _) (.cells #[.int .i64 fuel, .slice none 0 0] 24))
    have HQ := Lib.hid (Cells.new wn 24 #[.int .i64 fuel, .slice none 0 0])
    have HNQ := Lib.hid (show w.heap.size < wn.heap.size from HX.out.lt)
    replace HX := Lib.hid (HX.out.keep HAL.out)
    replace HB := Lib.hid (grow_to HB.out HAL.out)
    clear HAL x0 x1 HK1 HKA b0 b1 b2 b3 b4 ta
    generalize wn.alloc (.cells #[.int .i64 fuel, .slice none 0 0] 24) = w4 at *
    generalize wn.heap.size = QB at *
    go_wp2
    go_loopw [6] (fun iv wr => ∃ (i : Nat) (v : Value), i ≤ len ∧ iv = .int .i64 (i : Int) ∧ Cells wr w.heap.size 24 #[.int .i64 fuel, .slice A len cap] ∧ Cells wr QB 24 #[.int .i64 fuel, v] ∧ RowI wr w.heap.size v (qTo l at_ i) ∧ Below w.heap.size w wr) (fun iv _ => len - (intOf iv).toNat)
    case atStart => exact ⟨0, .slice none 0 0, Nat.zero_le _, rfl, HX.out, HQ.out, rowI_nil _ _, HB.out⟩
    case round =>
      obtain ⟨i, v, hi2, rfl, hX, hQ, hW, hB⟩ := hrel
      have HXr := Lib.hid hX
      have HQr := Lib.hid hQ
      have HWr := Lib.hid hW
      have HBr := Lib.hid hB
      clear hX hQ hW hB HX HQ HB
      obtain ⟨Av, capv, rfl⟩ := HWr.out.shape
      have hql := qTo_len l at_ i
      have HQL := Lib.hid hql
      rw [hql] at HQr
      replace HWr : Hid (wr.ownsRow w.heap.size 43 6 (.slice Av i capv) i ((qTo l at_ i).flatMap insVals)) := Lib.hid (by have hh := HWr.out; unfold RowI at hh; rw [hql] at hh; exact hh)
      clear hql
      have x1 := HXr.out.cell (j := 1) rfl
      by_cases hlt : i < len
      · obtain ⟨x, hx⟩ : ∃ x, l[i]? = some x := ⟨l[i]'(by rw [HLEN.out]; exact hlt), List.getElem?_eq_getElem _⟩
        obtain ⟨b, off, rfl, hb, hc⟩ := HCC.out (by rw [HLEN.out]; omega)
        obtain ⟨d0, d1, d2, d3, d4, d5⟩ := ((hc i x hx).1.keep HBr.out hb)
        have HQA : Hid (qAt l at_ i = if i < at_ then x else haltI) := Lib.hid (by unfold qAt; rw [List.getD_eq_getElem?_getD, hx]; rfl)
        have HSUC := Lib.hid (qTo_succ l at_ i)
        have HACC : Hid (i < 1073741824) := Lib.hid (by have := HP2.out; omega)
        have i0' : (0 : Int) ≤ i := by omega
        have i1 : (i : Int) < len := by omega
        have HWI := Lib.hid (wrap_up hlt HP2.out)
        have HLT := Lib.hid (show i + 1 ≤ len ∧ i < len from ⟨hlt, hlt⟩)
        clear hc hx hlt hi2 HCC
        obtain ⟨xo, xa, xb, xc, xn, xk⟩ := x
        dsimp only at d0 d1 d2 d3 d4 d5
        go_upto_region 13 with fail
        have HI3 := Lib.hid (Cells.new wr 43 #[.int .i64 xo, .int .i64 xa, .int .i64 xb, .int .i64 xc, .int .i64 xn, .int .u64 (xk : Nat)])
        have HAL := Lib.hid ((Below.refl wr.heap.size wr).alloc (Nat.le_refl _) (.cells #[.int .i64 xo, .int .i64 xa, .int .i64 xb, .int .i64 xc, .int .i64 xn, .int .u64 (xk : Nat)] 43))
        have HX3 := Lib.hid (HXr.out.keep HAL.out)
        have HQ3 := Lib.hid (HQr.out.keep HAL.out)
        have HW3 := Lib.hid (own_kept HWr.out HAL.out)
        have HB3 := Lib.hid (grow_to HBr.out HAL.out)
        have HNX := Lib.hid (show w.heap.size < wr.heap.size ∧ QB < wr.heap.size ∧ (∀ k, (Value.slice Av i capv).ownBlock = some k → k < wr.heap.size) from ⟨HXr.out.lt, HQr.out.lt, fun k hk => (World.ownsRow.lt HWr.out k hk).2⟩)
        clear HXr HQr HWr HBr HAL d0 d1 d2 d3 d4 d5 x1
        generalize wr.alloc (.cells #[.int .i64 xo, .int .i64 xa, .int .i64 xb, .int .i64 xc, .int .i64 xn, .int .u64 (xk : Nat)] 43) = w5 at *
        generalize wr.heap.size = Gx at *
        clear wr
        by_cases hat : i < at_
        · have tn : ¬ (at_ : Int) ≤ i := by omega
          have HQE : Hid (qAt l at_ i = ⟨xo, xa, xb, xc, xn, xk⟩) := Lib.hid (HQA.out.trans (if_pos hat))
          clear HQA hat
          go_upto_region 15 with fail
          clear tn
          have p1 := HQ3.out.cell (j := 1) rfl
          have d0 : w5.cell? ⟨Gx, 0, none⟩ = some (.int .i64 xo) := HI3.out.cell (j := 0) rfl
          have d1 : w5.cell? ⟨Gx, 1, none⟩ = some (.int .i64 xa) := HI3.out.cell (j := 1) rfl
          have d2 : w5.cell? ⟨Gx, 2, none⟩ = some (.int .i64 xb) := HI3.out.cell (j := 2) rfl
          have d3 : w5.cell? ⟨Gx, 3, none⟩ = some (.int .i64 xc) := HI3.out.cell (j := 3) rfl
          have d4 : w5.cell? ⟨Gx, 4, none⟩ = some (.int .i64 xn) := HI3.out.cell (j := 4) rfl
          have d5 : w5.cell? ⟨Gx, 5, none⟩ = some (.int .u64 (xk : Nat)) := HI3.out.cell (j := 5) rfl
          go_wp2_with (at_builtin; go_loud (refine wpList_append_elem' rfl _ _ _ rfl w.heap.size 43 i0 _ 6 48 Tryz.underlying22 hi hz0 hz1 hz2 rfl (by decide) (.slice Av i capv) i ((qTo l at_ i).flatMap insVals) rfl HW3.out #[.int .i64 xo, .int .i64 xa, .int .i64 xb, .int .i64 xc, .int .i64 xn, .int .u64 (xk : Nat)] rfl (by simp [Value.oneCell']) _ rfl rfl HACC.out (by decide) HB3.out.size ?_); intro v' w9 hown hgrow hat; obtain ⟨g', cap', rfl⟩ := ownsRow_succ hown; have HX9 := Lib.hid (HX3.out.grown hgrow (fun e => RowI.ne (l := qTo l at_ i) (by unfold RowI; rw [HQL.out]; exact HW3.out) HX3.out (by decide) _ e.symm rfl)); have HQ9 := Lib.hid (HQ3.out.grown hgrow (fun e => RowI.ne (l := qTo l at_ i) (by unfold RowI; rw [HQL.out]; exact HW3.out) HQ3.out (by decide) _ e.symm rfl)); have HW9 : Hid (RowI w9 w.heap.size (.slice (some ⟨g', 0, none⟩) (i + 1) cap') (qTo l at_ (i + 1))) := Lib.hid (by rw [HSUC.out, HQE.out]; exact rowI_snoc (x := ⟨xo, xa, xb, xc, xn, xk⟩) (by rw [HQL.out]; exact hown)); have HB9 := Lib.hid (HB3.out.grown hgrow HB3.out.size (fun k hk => (World.ownsRow.lt HW3.out k hk).1)); have u1 := HQ9.out.cell (j := 1) rfl; have z1 := HQ9.out.fz 1; clear hown hgrow hat)
          refine ⟨⟨i + 1, .slice (some ⟨g', 0, none⟩) (i + 1) cap', HLT.out.1, rfl, HX9.out.far (a := ⟨QB, 1, none⟩) (Nat.ne_of_lt HNQ.out) _, HQ9.out.set 1 _, ?_, HB9.out.setCell (p := ⟨QB, 1, none⟩) (Nat.le_of_lt HNQ.out) _⟩, by have hh := HLT.out.2; clear HWI; simp [intOf]; omega⟩
          exact HW9.out.turns (S := [QB]) ((Turns.refl _ w9).set (p := ⟨QB, 1, none⟩) (.inl (by simp)) _) (fun k hk => by simpa using HW9.out.ne HQ9.out (by decide) k hk)
        · have tn : (at_ : Int) ≤ i := by omega
          have HQE : Hid (qAt l at_ i = haltI) := Lib.hid (HQA.out.trans (if_neg hat))
          clear HQA hat
          have d0 := HI3.out.cell (j := 0) rfl
          have d1 := HI3.out.cell (j := 1) rfl
          have d2 := HI3.out.cell (j := 2) rfl
          have d3 := HI3.out.cell (j := 3) rfl
          have d4 := HI3.out.cell (j := 4) rfl
          have d5 := HI3.out.cell (j := 5) rfl
          have z0 := HI3.out.fz 0
          have z1 := HI3.out.fz 1
          have z2 := HI3.out.fz 2
          have z3 := HI3.out.fz 3
          have z4 := HI3.out.fz 4
          have z5 := HI3.out.fz 5
          go_upto_region 15 with fail
          replace HI3 := Lib.hid (ins_store (a := .int .i64 24) (b := .int .i64 0) (c := .int .i64 0) (d := .int .i64 0) (e := .int .i64 0) (f := .int .u64 0) HI3.out)
          replace HX3 := Lib.hid (ins_far (a := .int .i64 24) (b := .int .i64 0) (c := .int .i64 0) (d := .int .i64 0) (e := .int .i64 0) (f := .int .u64 0) HX3.out (Nat.ne_of_lt HNX.out.1))
          replace HQ3 := Lib.hid (ins_far (a := .int .i64 24) (b := .int .i64 0) (c := .int .i64 0) (d := .int .i64 0) (e := .int .i64 0) (f := .int .u64 0) HQ3.out (Nat.ne_of_lt HNX.out.2.1))
          replace HW3 := Lib.hid (row_turns HW3.out (((((((Turns.refl [Gx] w5).set (p := ⟨Gx, 0, none⟩) (.inl (by simp)) (.int .i64 24)).set (p := ⟨Gx, 1, none⟩) (.inl (by simp)) (.int .i64 0)).set (p := ⟨Gx, 2, none⟩) (.inl (by simp)) (.int .i64 0)).set (p := ⟨Gx, 3, none⟩) (.inl (by simp)) (.int .i64 0)).set (p := ⟨Gx, 4, none⟩) (.inl (by simp)) (.int .i64 0)).set (p := ⟨Gx, 5, none⟩) (.inl (by simp)) (.int .u64 0)) (fun k hk => by simpa using Nat.ne_of_lt (HNX.out.2.2 k hk)))
          replace HB3 := Lib.hid (ins_below (a := .int .i64 24) (b := .int .i64 0) (c := .int .i64 0) (d := .int .i64 0) (e := .int .i64 0) (f := .int .u64 0) HB3.out (Nat.le_of_lt HNX.out.1))
          clear d0 d1 d2 d3 d4 d5 z0 z1 z2 z3 z4 z5 tn
          generalize (((((w5.setCell ⟨Gx, 0, none⟩ (.int .i64 24)).setCell ⟨Gx, 1, none⟩ (.int .i64 0)).setCell ⟨Gx, 2, none⟩ (.int .i64 0)).setCell ⟨Gx, 3, none⟩ (.int .i64 0)).setCell ⟨Gx, 4, none⟩ (.int .i64 0)).setCell ⟨Gx, 5, none⟩ (.int .u64 0) = w5 at *
          have p1 := HQ3.out.cell (j := 1) rfl
          have d0 : w5.cell? ⟨Gx, 0, none⟩ = some (.int .i64 24) := HI3.out.cell (j := 0) rfl
          have d1 : w5.cell? ⟨Gx, 1, none⟩ = some (.int .i64 0) := HI3.out.cell (j := 1) rfl
          have d2 : w5.cell? ⟨Gx, 2, none⟩ = some (.int .i64 0) := HI3.out.cell (j := 2) rfl
          have d3 : w5.cell? ⟨Gx, 3, none⟩ = some (.int .i64 0) := HI3.out.cell (j := 3) rfl
          have d4 : w5.cell? ⟨Gx, 4, none⟩ = some (.int .i64 0) := HI3.out.cell (j := 4) rfl
          have d5 : w5.cell? ⟨Gx, 5, none⟩ = some (.int .u64 0) := HI3.out.cell (j := 5) rfl
          go_wp2_with (at_builtin; go_loud (refine wpList_append_elem' rfl _ _ _ rfl w.heap.size 43 i0 _ 6 48 Tryz.underlying22 hi hz0 hz1 hz2 rfl (by decide) (.slice Av i capv) i ((qTo l at_ i).flatMap insVals) rfl HW3.out #[.int .i64 24, .int .i64 0, .int .i64 0, .int .i64 0, .int .i64 0, .int .u64 0] rfl (by simp [Value.oneCell']) _ rfl rfl HACC.out (by decide) HB3.out.size ?_); intro v' w9 hown hgrow hat; obtain ⟨g', cap', rfl⟩ := ownsRow_succ hown; have HX9 := Lib.hid (HX3.out.grown hgrow (fun e => RowI.ne (l := qTo l at_ i) (by unfold RowI; rw [HQL.out]; exact HW3.out) HX3.out (by decide) _ e.symm rfl)); have HQ9 := Lib.hid (HQ3.out.grown hgrow (fun e => RowI.ne (l := qTo l at_ i) (by unfold RowI; rw [HQL.out]; exact HW3.out) HQ3.out (by decide) _ e.symm rfl)); have HW9 : Hid (RowI w9 w.heap.size (.slice (some ⟨g', 0, none⟩) (i + 1) cap') (qTo l at_ (i + 1))) := Lib.hid (by rw [HSUC.out, HQE.out]; exact rowI_snoc (x := haltI) (by rw [HQL.out]; exact hown)); have HB9 := Lib.hid (HB3.out.grown hgrow HB3.out.size (fun k hk => (World.ownsRow.lt HW3.out k hk).1)); have u1 := HQ9.out.cell (j := 1) rfl; have z1 := HQ9.out.fz 1; clear hown hgrow hat)
          refine ⟨⟨i + 1, .slice (some ⟨g', 0, none⟩) (i + 1) cap', HLT.out.1, rfl, HX9.out.far (a := ⟨QB, 1, none⟩) (Nat.ne_of_lt HNQ.out) _, HQ9.out.set 1 _, ?_, HB9.out.setCell (p := ⟨QB, 1, none⟩) (Nat.le_of_lt HNQ.out) _⟩, by have hh := HLT.out.2; clear HWI; simp [intOf]; omega⟩
          exact HW9.out.turns (S := [QB]) ((Turns.refl _ w9).set (p := ⟨QB, 1, none⟩) (.inl (by simp)) _) (fun k hk => by simpa using HW9.out.ne HQ9.out (by decide) k hk)
      · obtain rfl : i = len := by omega
        have i1 : ¬ (i : Int) < i := by omega
        have q0 := HQr.out.cell (j := 0) rfl
        have q1 := HQr.out.cell (j := 1) rfl
        have hcode : CodeIn wr wr.heap.size Av (qTo l at_ i) := by
          have hr : RowI wr w.heap.size (.slice Av (qTo l at_ i).length capv) (qTo l at_ i) := by rw [HQL.out]; unfold RowI; rw [HQL.out]; exact HWr.out
          refine hr.code fun y hy => ?_
          unfold qTo at hy
          obtain ⟨j, hj, rfl⟩ := List.mem_map.1 hy
          rw [List.mem_range] at hj
          unfold qAt
          split
          · rw [List.getD_eq_getElem?_getD, List.getElem?_eq_getElem (by rw [HLEN.out]; exact hj)]
            exact HKK.out _ (List.getElem_mem _)
          · show (0 : Nat) < 2 * signB; unfold signB; decide
        have kq := HQC.out wr Av capv _ hcode HP3.out
        rw [HQL.out] at kq
        have KQ := Lib.hid kq
        clear kq hcode
        go_wp2_with (go_at_call 12; refine KQ.out.mono ?_; rintro _ wz ⟨rfl, hb⟩; have HB := Lib.hid (grow_to HBr.out hb); clear hb)
        go_ret
        exact ⟨by first | rfl | simp, HB.out⟩

-- LIFT
set_option maxRecDepth 100000 in
theorem contract (H : Type) (enc : TypeId × Value → H) (W : World) (base : Nat) (args : Array Value) (ds gs : List (DataW H)) (before : List MemPlace)
    (hval : ∀ (j : Nat) t v, Tryz.f11.params[j]? = some t → args[j]? = some v → Value.okWide Tryz.prog W .any base t v)
    (hW : DataW.Whole enc Tryz.prog Tryz.f11.params.toList Rows.progPlacesSpec.vars false W args.toList ds gs before) (hL : laidMetH Tryz.prog Rows.progPlacesRow.laid W) :
    Calls Tryz.prog 11 args W fun e W' => ∃ v, e = .returned v ∧ Rows.progPlacesSpec.post enc Tryz.prog Tryz.f11 false true false false W args v W' := by
  have hT0 := tabs_of (show laidMetH Tryz.prog laidOf W from hL)
  have hT : ∀ wz, Below W.heap.size W wz → TabsAt wz := fun wz hz => tabs_keep hz hT0
  have hAll := all_of (show laidMetH Tryz.prog laidOf W from hL)
  clear hL
  have hts : Tryz.f11.params.toList.all (fun t => Tryz.prog.readableRec t && decide (t < Tryz.prog.types.size)) = true := by kernel_rfl
  have hW' := hW
  obtain ⟨p, q, hA0, hV, rfl, hfz, hnd⟩ := hW
  have hA : DataW.TrodAll enc Tryz.prog W 0 (fun _ => true) true Tryz.f11.params.toList args.toList ds p := hA0
  rw [Tryz.params11] at hA hval
  obtain ⟨v0, vs0, d0, ds0, p0, q0, hargs, rfl, rfl, h0, r0⟩ := trodAll_cons hA
  obtain ⟨rfl, rfl, rfl⟩ := trodAll_nil r0
  obtain rfl : args = #[v0] := by cases args; simp_all
  obtain ⟨rfl, rfl⟩ := trodVars_none hV
  have hfn : Rows.progPlacesSpec.fn H ([d0] ++ []) = { results := [.lit (.bool true)], args := [d0] } := rfl
  have hfin := fun W' (hbel : Below W.heap.size W W') => law_post (f := Tryz.f11) (s := Rows.progPlacesSpec) 4 Tryz.laid hts rfl Tryz.underlying4 rfl hfn hW' hbel
  clear hA0 hts hfn
  obtain ⟨fu0, A0, l0, c0, rfl, hC0, hf0, hg0⟩ := open_prog (hval 0 24 v0 rfl rfl) h0
  exact (walk W hC0 hAll).mono fun e W' ⟨he, hg⟩ => ⟨_, he, hfin W' hg⟩

theorem reads (os : Os) {H : Type} (enc : TypeId × Value → H) : ∃ places, DataW.whole enc Tryz.prog ((laidWorld os).forCall (fun _ _ => 0) ⟨#[], #[.agg #[.int .i64 0, .slice none 0 0]], []⟩).memory Tryz.f11.params.toList Rows.progPlacesSpec.vars false #[.agg #[.int .i64 0, .slice none 0 0]].toList 8 = some ([.agg [.lit (.int .i64 0), .nil]], [], places) :=
  ⟨[], by kernel_rfl⟩
theorem laid_met (os : Os) : laidMet Tryz.prog Rows.progPlacesRow.laid ((laidWorld os).forCall (fun _ _ => 0) ⟨#[], #[.agg #[.int .i64 0, .slice none 0 0]], []⟩).memory := laid_here os #[.agg #[.int .i64 0, .slice none 0 0]]

set_option maxRecDepth 100000 in
theorem lifted (os : Os) (started : os.Started) (H : Type) (enc : TypeId × Value → H) (F : Stop.Interp) :
    ReturnsInHanded {} Tryz.checked os 11 .any ((OpenSpec.ofChange Rows.progPlacesSpec).preRow enc Tryz.prog Tryz.f11 Rows.progPlacesRow.domain false Rows.progPlacesRow.laid) (((OpenSpec.ofChange Rows.progPlacesSpec).at F).post enc Tryz.prog Tryz.f11 false true false false) := by
  obtain ⟨places, hx⟩ := reads os enc
  refine returnsInHanded_of_row (C := Tryz.checked) (s := OpenSpec.ofChange Rows.progPlacesSpec) Tryz.own started (by kernel_rfl) Tryz.func11
    (witness_row_atRef (enc := enc) (C := Tryz.checked) false (laidWorld os) #[.agg #[.int .i64 0, .slice none 0 0]] rfl (by kernel_rfl) (by kernel_rfl) (by kernel_rfl)
      (OpenSpec.preRow_of_cond 8 hx (by kernel_rfl) (fun k hk => by cases hk) (by kernel_rfl) (laid_met os))) ?_
  intro W base args ds gs before hval hW _ _ _ hL _ _
  exact contract H enc W base args ds gs before hval hW hL

theorem said : Rows.ProgPlacesSaid :=
  OpenClaim.holds_of_cond 11 Tryz.f11 rfl rfl rfl rfl rfl rfl rfl ⟨rfl, rfl, rfl, rfl, rfl⟩ rfl rfl rfl rfl rfl (by kernel_rfl) Tryz.func11 (by kernel_rfl)
    (of_decide_eq_true (by kernel_rfl)) (by unfold Func.isWrapper; first | (rw [if_pos (by decide +kernel)]; kernel_rfl) | (rw [if_neg (by decide +kernel)]; exact ⟨rfl, rfl⟩))
    (fun os started H enc _ F => by rw [OpenClaim.pre_eq_preRow]; exact lifted os started H enc F)

theorem plain (f : FuncId) (fn : Func) (hf : Tryz.pinned.checked.prog.funcNamed "gaffer/gafferlaw05.ProgPlaces" = some f) (hfn : Tryz.pinned.checked.prog.funcs[f]? = some fn) :
    true = Tryz.pinned.checked.prog.looks [] ∧ ∀ (j : Nat) t, fn.params[j]? = some t → Tryz.pinned.checked.prog.wantsStandIn t = false := by
  obtain rfl : f = 11 := Option.some.inj ((show Tryz.prog.funcNamed "gaffer/gafferlaw05.ProgPlaces" = some 11 by kernel_rfl).symm.trans hf) |>.symm
  obtain rfl : fn = Tryz.f11 := (Option.some.inj (Tryz.func11.symm.trans hfn)).symm
  refine ⟨by kernel_rfl, fun j t ht => ?_⟩
  rw [Tryz.params11] at ht
  have hm := Array.mem_of_getElem? ht
  simp only [List.mem_toArray, List.mem_cons, List.not_mem_nil, or_false] at hm
  rcases hm with rfl
  · exact (show Tryz.prog.wantsStandIn 24 = false by kernel_rfl)

theorem proved : Rows.ProgPlacesCardSaid :=
  Claim7.holds_tied_plain_at .later [] _ _ _ _ said (fun _ h => by cases h) (by kernel_rfl) (fun _ h => by cases h) progPlaces_row_tie rfl ⟨rfl, rfl⟩ (by kernel_rfl) rfl plain (by kernel_rfl)

end Go.Proofs.YtiidkgdlngcpgaaGreatDoor.progPlaces
