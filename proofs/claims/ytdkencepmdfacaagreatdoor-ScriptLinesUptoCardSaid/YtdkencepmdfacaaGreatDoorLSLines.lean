/- The law ScriptLines: a script's text has one line more than it has steps; each line alone, behind the first one, is a script of that step alone. -/
import Derived.RangeFuncBox
import Derived.Shelf.Vars
import Derived.Test.YtdkencepmdfacaaGreatDoorTw
import Derived.Test.YtdkencepmdfacaaGreatDoorNumUpto
set_option maxRecDepth 100000
namespace Go.Proofs.YtdkencepmdfacaaGreatDoor.scriptLines
open Go.ChangeMaps (open_string shut_string)
open Go.RowKit Go.WideShapes Go.ChangeShapes Go.ChangeAt Ieee

theorem all_of {W : World} (h : laidMetH Tryz.prog laidOf W) : AllAt W := ⟨tabs_of h, err_of h, syn_of h⟩
theorem steps_wf {w : World} {B : Nat} {A : Option Addr} {l : List Stp} (h : StepsIn w B A l) {s : Stp} (hs : s ∈ l) : s.W64 := by
  obtain ⟨i, hi, rfl⟩ := List.getElem_of_mem hs
  obtain ⟨b, off, e, hb, hc⟩ := h (by omega)
  exact (hc i _ (List.getElem?_eq_getElem hi)).2
/-! ### plain: a script's text, line by line -/
theorem printL_fault : ∀ (l : List Stp) (out : List UInt8), (printL out l).1 ≠ 0 → (printL out l).2 = []
  | [], out, h => by rw [printL] at h; exact absurd rfl h
  | s :: r, out, h => by
    rw [printL] at h ⊢
    split
    · rfl
    · rename_i hh
      rw [if_neg hh] at h
      exact printL_fault r _ h
theorem printS_fault {c : Cfg} {l : List Stp} (h : (printS c l).1 ≠ 0) : (printS c l).2 = [] := by
  unfold printS at h ⊢
  split
  · rfl
  rename_i h1
  rw [if_neg h1] at h
  split
  · rfl
  rename_i h2
  rw [if_neg h2] at h
  split
  · rfl
  rename_i h3
  rw [if_neg h3] at h
  exact printL_fault _ _ h
def ln (c : Cfg) (l : List Stp) : Nat → List UInt8
  | 0 => c.line
  | j + 1 => (l.getD j stp0).line
def pre (c : Cfg) (l : List Stp) : Nat → List UInt8
  | 0 => []
  | q + 1 => pre c l q ++ (ln c l q ++ [10])
theorem pre_take (c : Cfg) (l : List Stp) : ∀ j, j ≤ l.length → pre c l (j + 1) = scText c (l.take j)
  | 0, _ => by simp [pre, ln, scText]
  | j + 1, h => by
    rw [pre, pre_take c l j (by omega)]
    have hj : j < l.length := by omega
    rw [List.take_add_one, List.getElem?_eq_getElem hj]
    have e : ln c l (j + 1) = l[j].line := by
      show (l.getD j stp0).line = _
      rw [List.getD_eq_getElem?_getD, List.getElem?_eq_getElem hj]; rfl
    rw [e]
    unfold scText
    rw [List.flatMap_append]
    show _ = c.line ++ 10 :: (_ ++ List.flatMap _ [l[j]])
    rw [List.flatMap_singleton]
    simp
theorem pre_all (c : Cfg) (l : List Stp) : pre c l (l.length + 1) = scText c l := by
  rw [pre_take c l l.length (Nat.le_refl _), List.take_length]
theorem pre_le (c : Cfg) (l : List Stp) (q : Nat) : ∀ d, (pre c l q).length ≤ (pre c l (q + d)).length ∧ ∃ t, pre c l (q + d) = pre c l q ++ t
  | 0 => ⟨Nat.le_refl _, [], by simp⟩
  | d + 1 => by
    obtain ⟨h1, t, h2⟩ := pre_le c l q d
    have e : pre c l (q + (d + 1)) = pre c l (q + d) ++ (ln c l (q + d) ++ [10]) := rfl
    refine ⟨by rw [e, List.length_append]; omega, t ++ (ln c l (q + d) ++ [10]), ?_⟩
    rw [e, h2, List.append_assoc]
theorem text_seg {c : Cfg} {l : List Stp} {q : Nat} (hq : q ≤ l.length) : ∃ post, scText c l = pre c l q ++ ((ln c l q ++ [10]) ++ post) := by
  obtain ⟨_, t, h⟩ := pre_le c l (q + 1) (l.length - q)
  rw [show q + 1 + (l.length - q) = l.length + 1 by omega, pre_all] at h
  exact ⟨t, by rw [h, pre, List.append_assoc]⟩
theorem seg_at {c : Cfg} {l : List Stp} {q i : Nat} (hq : q ≤ l.length) (h0 : (pre c l q).length ≤ i) (h1 : i ≤ (pre c l q).length + (ln c l q).length) : (scText c l)[i]? = (ln c l q ++ [10])[i - (pre c l q).length]? := by
  obtain ⟨t, h⟩ := text_seg (c := c) hq
  rw [h, List.getElem?_append_right h0, List.getElem?_append_left (by rw [List.length_append, List.length_singleton]; omega)]
theorem seg_cut {c : Cfg} {l : List Stp} {q : Nat} (hq : q ≤ l.length) : ((scText c l).drop (pre c l q).length).take ((ln c l q).length + 1) = ln c l q ++ [10] := by
  obtain ⟨t, h⟩ := text_seg (c := c) hq
  rw [h, List.drop_left, List.take_left' (by rw [List.length_append, List.length_singleton])]
theorem ln_no10 {c : Cfg} {l : List Stp} (hl : ∀ s ∈ l, s.Wf) : ∀ q, q ≤ l.length → (10 : UInt8) ∉ ln c l q
  | 0, _ => cfg_no10 c
  | j + 1, h => by
    show (10 : UInt8) ∉ (l.getD j stp0).line
    rw [List.getD_eq_getElem?_getD, List.getElem?_eq_getElem (show j < l.length by omega)]
    exact line_no10 (hl _ (List.getElem_mem _))
theorem ext_list (l : List UInt8) (a b : Nat) (hb : b ≤ l.length) : (strOf l).extract a b = strOf ((l.drop a).take (b - a)) := by
  apply ByteArray.ext
  simp only [ByteArray.data_extract]
  apply Array.ext'
  simp
/-- a step in a block, from its first cell on -/
def Cells5 (w : World) (g : Nat) (x : Stp) : Prop := StepAt w g 0 x
theorem Cells5.keep {w w' : World} {g : Nat} {x : Stp} (h : Cells5 w g x) (hb : Below w.heap.size w w') : Cells5 w' g x := StepAt.keep h hb (World.block_lt_of_cell? w ⟨g, 0, none⟩ h.1)
theorem row_one {w : World} {base cap : Nat} {A : Option Addr} {x : Stp} (h : RowT w base (.slice A [x].length cap) [x]) : ∃ g, A = some ⟨g, 0, none⟩ ∧ Cells5 w g x := by
  rcases h.2 with ⟨h1, h0⟩ | ⟨g, cap', cur, h1, hb, hg, _⟩
  · simp at h0
  · injection h1 with h1 h2 h3
    refine ⟨g, h1, ?_⟩
    have key : ∀ j u, j < 5 → (stpVals x)[j]? = some u → w.cell? ⟨g, 0 + j, none⟩ = some u := fun j u hj hu => by
      have := World.ownsRow.cells h (g := g) (by rw [h1]; rfl) j u (by rw [List.flatMap_singleton]; exact hu)
      rw [add_plain] at this
      exact this
    exact ⟨key 0 _ (by omega) rfl, key 1 _ (by omega) rfl, key 2 _ (by omega) rfl, key 3 _ (by omega) rfl, key 4 _ (by omega) rfl⟩
theorem str_index {T : List UInt8} {i : Nat} {b : UInt8} (h : T[i]? = some b) (W : World) : (Instr.index 9 (.string (strOf T)) (.int .i64 (i : Nat))).run Tryz.prog W = .ok (.int .u8 (b.toNat : Nat)) W := by
  obtain ⟨hi, hb⟩ := List.getElem?_eq_some_iff.1 h
  have hs : (strOf T).size = T.length := ba_size T
  rw [run_index_string W _ _ _ _ Tryz.underlying9, dif_pos ⟨by omega, by omega⟩]
  simp only [Int.toNat_natCast]
  have e : (strOf T)[i]'(by omega) = b := hb
  rw [e]

set_option maxHeartbeats 16000000 in
set_option maxRecDepth 100000 in
theorem walk (c : Cfg) (h64 : ∀ n ∈ c.nums, w64 n) (A : Option Addr) (l : List Stp) (cap : Nat) (w : World) (hC : StepsIn w w.heap.size A l) (hA : LibAt w) :
    Calls Tryz.prog 6 #[c.val, .slice A l.length cap] w fun e w' => e = .returned (.bool true) ∧ Below w.heap.size w w' := by
  have HA : Hid (∀ W, Below w.heap.size w W → LibAt W) := Lib.hid fun W hW => hA.keep hW
  have HB := Lib.hid ((Below.refl w.heap.size w).alloc (Nat.le_refl _) (.cells #[.int .i64 c.ru, .int .i64 c.le, .int .i64 c.re, .int .i64 c.att, .int .i64 c.wi, .int .i64 c.qu, .int .i64 c.bl, .int .i64 c.ev, .int .i64 c.ha] 23))
  have HX := Lib.hid (Cells.new w 23 #[.int .i64 c.ru, .int .i64 c.le, .int .i64 c.re, .int .i64 c.att, .int .i64 c.wi, .int .i64 c.qu, .int .i64 c.bl, .int .i64 c.ev, .int .i64 c.ha])
  have HC := Lib.hid hC
  have HKA : Hid (∀ W, Below w.heap.size w W → Calls Tryz.prog 9 #[] W fun e w' => e = .returned (.bool true) ∧ Below W.heap.size W w') := Lib.hid fun W hW => awake_any W (hA.keep hW)
  obtain ⟨⟨E1, t1⟩, hp1⟩ : ∃ R, printS c l = R := ⟨_, rfl⟩
  have HKP : Hid (∀ W, Below w.heap.size w W → Calls Tryz.prog 7 #[.agg #[.int .i64 c.ru, .int .i64 c.le, .int .i64 c.re, .int .i64 c.att, .int .i64 c.wi, .int .i64 c.qu, .int .i64 c.bl, .int .i64 c.ev, .int .i64 c.ha], .slice A l.length cap] W fun e w' => e = .returned (.tuple #[.string (strOf t1), .int .i64 E1]) ∧ Below W.heap.size W w') := Lib.hid fun W hW => by
    have k := sprint_any c h64 A l cap W ((hC.keep hW).more hW.size) (hA.keep hW)
    rw [hp1] at k
    exact k
  have HBAD : Hid (E1 ≠ 0 → t1 = []) := Lib.hid fun h => by
    have := printS_fault (c := c) (l := l) (by rw [hp1]; exact h)
    rw [hp1] at this
    exact this
  have HGOOD : Hid (E1 = 0 → t1 = scText c l ∧ (∀ s ∈ l, s.Wf) ∧ l.length ≤ 2000 ∧ t1.length ≤ 32768 ∧ ∀ s ∈ l, parseS (c.line ++ 10 :: (s.line ++ [10])) = (0, 0, c, [s]) ∧ s.line.length ≤ 4096) := Lib.hid fun h => by
    subst h
    obtain ⟨g1, g2, g3, g4, g5, g6⟩ := printS_told hp1
    exact ⟨g5, fun s hs => ⟨g3 s hs, (steps_wf hC hs).2.1, (steps_wf hC hs).2.2.1, (steps_wf hC hs).2.2.2⟩, g2, g6, fun s hs => ⟨script_one (fun s hs => ⟨(steps_wf hC hs).2.1, (steps_wf hC hs).2.2.1, (steps_wf hC hs).2.2.2⟩) hp1 hs, (g4 s hs).2⟩⟩
  show Calls Tryz.prog 6 #[.agg #[.int .i64 c.ru, .int .i64 c.le, .int .i64 c.re, .int .i64 c.att, .int .i64 c.wi, .int .i64 c.qu, .int .i64 c.bl, .int .i64 c.ev, .int .i64 c.ha], .slice A l.length cap] w _
  clear hC hA hp1 h64
  obtain ⟨S, hS⟩ : ∃ S, strOf t1 = S := ⟨_, rfl⟩
  have HS := Lib.hid hS
  rw [hS] at HKP
  clear hS
  go_enter Tryz.func6, Tryz.ntmps6
  go_upto_region 1 with fail
  generalize w.alloc (.cells #[.int .i64 c.ru, .int .i64 c.le, .int .i64 c.re, .int .i64 c.att, .int .i64 c.wi, .int .i64 c.qu, .int .i64 c.bl, .int .i64 c.ev, .int .i64 c.ha] 23) = w1 at *
  have x0 : w1.cell? ⟨w.heap.size, 0, none⟩ = some (.int .i64 c.ru) := HX.out.cell (j := 0) rfl
  have x1 : w1.cell? ⟨w.heap.size, 1, none⟩ = some (.int .i64 c.le) := HX.out.cell (j := 1) rfl
  have x2 : w1.cell? ⟨w.heap.size, 2, none⟩ = some (.int .i64 c.re) := HX.out.cell (j := 2) rfl
  have x3 : w1.cell? ⟨w.heap.size, 3, none⟩ = some (.int .i64 c.att) := HX.out.cell (j := 3) rfl
  have x4 : w1.cell? ⟨w.heap.size, 4, none⟩ = some (.int .i64 c.wi) := HX.out.cell (j := 4) rfl
  have x5 : w1.cell? ⟨w.heap.size, 5, none⟩ = some (.int .i64 c.qu) := HX.out.cell (j := 5) rfl
  have x6 : w1.cell? ⟨w.heap.size, 6, none⟩ = some (.int .i64 c.bl) := HX.out.cell (j := 6) rfl
  have x7 : w1.cell? ⟨w.heap.size, 7, none⟩ = some (.int .i64 c.ev) := HX.out.cell (j := 7) rfl
  have x8 : w1.cell? ⟨w.heap.size, 8, none⟩ = some (.int .i64 c.ha) := HX.out.cell (j := 8) rfl
  go_upto_region 4 with (first | (go_at_call 7; refine (HKP.out _ HB.out).mono ?_; rintro _ w2 ⟨rfl, hb2⟩; have HB2 := Lib.hid (grow_to HB.out hb2); have HX2 := Lib.hid (HX.out.keep hb2); clear hb2) | (go_at_call 9; refine (HKA.out _ HB2.out).mono ?_; rintro _ w3 ⟨rfl, hb3⟩; have HB3 := Lib.hid (grow_to HB2.out hb3); have HX3 := Lib.hid (HX2.out.keep hb3); clear hb3))
  clear HKP HKA
  by_cases h1 : E1 = 0
  case neg =>
    have t0 : (E1 == 0) = false := by rw [beq_eq_false_iff_ne]; exact h1
    have hs : S = ⟨#[]⟩ := by rw [← HS.out, HBAD.out h1]
    subst hs
    clear h1
    go_wp2
    go_ret
    exact ⟨by first | rfl | simp, HB3.out⟩
  obtain ⟨g1, g2, g3, g4, g5⟩ := HGOOD.out h1
  subst h1
  subst g1
  have HWF := Lib.hid g2
  have HLL := Lib.hid g3
  have HTL := Lib.hid g4
  have HONE := Lib.hid g5
  have HSZ : Hid (S.size = (scText c l).length) := Lib.hid (by rw [← HS.out]; exact ba_size _)
  obtain ⟨len, hlen⟩ : ∃ n, l.length = n := ⟨_, rfl⟩
  have HLEN := Lib.hid hlen
  rw [hlen] at HLL ⊢
  clear g2 g3 g4 g5 HBAD HGOOD hlen HX HB HX2 HB2
  clear x0 x1 x2 x3 x4 x5 x6 x7 x8
  go_wp2
  go_loopw [7, 8, 9, 10] (fun fv ov kv iv wr => ∃ (q i : Nat) (kq : Int), q ≤ len + 1 ∧ kq = (q : Int) - 1 ∧ (pre c l q).length ≤ i ∧ (q ≤ len → i ≤ (pre c l q).length + (ln c l q).length) ∧ (q = len + 1 → i = (pre c l q).length) ∧ fv = .string (if q = 0 then ⟨#[]⟩ else strOf (c.line ++ [10])) ∧ ov = .int .i64 ((pre c l q).length : Nat) ∧ kv = .int .i64 kq ∧ iv = .int .i64 (i : Nat) ∧ Cells wr w.heap.size 23 #[.int .i64 c.ru, .int .i64 c.le, .int .i64 c.re, .int .i64 c.att, .int .i64 c.wi, .int .i64 c.qu, .int .i64 c.bl, .int .i64 c.ev, .int .i64 c.ha] ∧ Below w.heap.size w wr) (fun _ _ _ iv _ => (scText c l).length - (intOf iv).toNat)
  case atStart => exact ⟨0, 0, -1, by omega, by simp, Nat.le_refl _, fun _ => Nat.zero_le _, fun h => (by omega), rfl, rfl, rfl, rfl, HX3.out, HB3.out⟩
  case round =>
    obtain ⟨q, i, kq, hq, hkq, hi0, hi1, hi2, rfl, rfl, rfl, rfl, hx, hb⟩ := hrel
    have HXR := Lib.hid hx
    have HBR := Lib.hid hb
    have HKQ := Lib.hid hkq
    clear hx hb
    by_cases hql : q ≤ len
    case neg =>
      obtain rfl : q = len + 1 := by omega
      have e1 : (pre c l (len + 1)).length = (scText c l).length := by rw [← HLEN.out, pre_all]
      have e2 : i = S.size := by rw [HSZ.out, ← e1]; exact hi2 rfl
      have tl : ¬ (i : Int) < (S.size : Nat) := by omega
      have tk : (kq == (len : Int)) = true := by rw [beq_iff_eq]; omega
      have tf : ((((pre c l (len + 1)).length : Nat) : Int) == ((S.size : Nat) : Int)) = true := by rw [beq_iff_eq, HSZ.out, e1]
      clear e1 e2 hi0 hi1 hi2 hq hkq hql
      generalize (pre c l (len + 1)).length = fq at *
      generalize (if len + 1 = 0 then (⟨#[]⟩ : ByteArray) else strOf (c.line ++ [10])) = FS at *
      go_wp2
      go_ret
      exact ⟨by first | rfl | simp, HBR.out⟩
    have hi3 := hi1 hql
    have hql2 : q ≤ l.length := by rw [HLEN.out]; exact hql
    have hat := seg_at (c := c) (l := l) hql2 hi0 hi3
    obtain ⟨b, hb⟩ : ∃ b, (ln c l q ++ [10])[i - (pre c l q).length]? = some b := ⟨_, List.getElem?_eq_getElem (by rw [List.length_append, List.length_singleton]; omega)⟩
    rw [hb] at hat
    have hix := str_index hat
    rw [HS.out] at hix
    have hiT : i < (scText c l).length := (List.getElem?_eq_some_iff.1 hat).1
    have HIT := Lib.hid hiT
    have tl : (i : Int) < (S.size : Nat) := by have := HSZ.out; omega
    have hwi : wrap64 ((i : Int) + 1) = (i : Int) + 1 := by have := HTL.out; unfold wrap64; omega
    have HWI := Lib.hid hwi
    by_cases hend : i = (pre c l q).length + (ln c l q).length
    case neg =>
      have hb10 : b ≠ 10 := fun e => by
        rw [List.getElem?_append_left (by omega)] at hb
        exact ln_no10 HWF.out q hql2 (e ▸ List.mem_of_getElem? hb)
      have tb : (((b.toNat : Nat) : Int) == 10) = false := by
        rw [beq_eq_false_iff_ne]
        intro e
        exact hb10 (UInt8.toNat_inj.1 (by show b.toNat = 10; omega))
      have HR : Hid ((pre c l q).length ≤ i + 1 ∧ (q ≤ len → i + 1 ≤ (pre c l q).length + (ln c l q).length) ∧ (q = len + 1 → i + 1 = (pre c l q).length) ∧ q ≤ len + 1) := Lib.hid ⟨by omega, fun _ => by omega, fun h => by omega, hq⟩
      clear hb hat hb10 hi0 hi1 hi2 hi3 hend hiT hq hql hql2 hkq
      generalize (b.toNat : Int) = bn at *
      obtain ⟨FS, hFS⟩ : ∃ F, (if q = 0 then (⟨#[]⟩ : ByteArray) else strOf (c.line ++ [10])) = F := ⟨_, rfl⟩
      have HFS := Lib.hid hFS
      obtain ⟨fq, hfq⟩ : ∃ f, (pre c l q).length = f := ⟨_, rfl⟩
      have HFQ := Lib.hid hfq
      rw [hFS, hfq]
      clear hFS hfq
      go_wp2
      exact ⟨⟨q, i + 1, kq, HR.out.2.2.2, HKQ.out, HR.out.1, HR.out.2.1, HR.out.2.2.1, by rw [HFS.out], by rw [HFQ.out], rfl, by first | exact up_val HWI.out | rfl, HXR.out, HBR.out⟩, by first | exact up_end HIT.out HWI.out | (have hh := HIT.out; simp [intOf]; omega)⟩
    have tb : (((b.toNat : Nat) : Int) == 10) = true := by
      rw [List.getElem?_append_right (by omega), show i - (pre c l q).length - (ln c l q).length = 0 by omega] at hb
      injection hb with hb
      rw [← hb]; rfl
    have hpn : (pre c l (q + 1)).length = i + 1 := by
      show (pre c l q ++ (ln c l q ++ [10])).length = _
      rw [List.length_append, List.length_append, List.length_singleton]; omega
    have hcut := seg_cut (c := c) (l := l) hql2
    have hex : S.extract (pre c l q).length (i + 1) = strOf (ln c l q ++ [10]) := by
      rw [← HS.out, ext_list _ _ _ (by omega), show i + 1 - (pre c l q).length = (ln c l q).length + 1 by omega, hcut]
    have HNX : Hid (q + 1 ≤ len + 1 ∧ (pre c l (q + 1)).length ≤ i + 1 ∧ (q + 1 ≤ len → i + 1 ≤ (pre c l (q + 1)).length + (ln c l (q + 1)).length) ∧ (q + 1 = len + 1 → i + 1 = (pre c l (q + 1)).length)) := Lib.hid ⟨by omega, by omega, fun _ => by omega, fun _ => by omega⟩
    have HPN := Lib.hid hpn
    have i0 : (0 : Int) ≤ (i : Int) + 1 := by omega
    have i1 : (i : Int) + 1 ≤ (S.size : Nat) := by have := HSZ.out; omega
    have i2 : ((i : Int) + 1).toNat = i + 1 := by omega
    have i3 : (((pre c l q).length : Nat) : Int) ≤ (i : Int) + 1 := by omega
    have i4 : (0 : Int) ≤ (((pre c l q).length : Nat) : Int) := by omega
    have hwk : wrap64 (kq + 1) = ((q + 1 : Nat) : Int) - 1 := by have := HLL.out; unfold wrap64; omega
    have HWK := Lib.hid hwk
    clear hb hat hi1 hi2 hend hcut hpn hiT
    generalize (b.toNat : Int) = bn at *
    rcases Nat.eq_zero_or_pos q with rfl | hpos
    · have tn : kq < 0 := by omega
      have hex0 : S.extract 0 (i + 1) = strOf (c.line ++ [10]) := hex
      clear hex hi0 hi3 hq hql hql2 hkq i3 i4
      generalize strOf (c.line ++ [10]) = FS at *
      go_wp2
      exact ⟨⟨1, i + 1, 0, HNX.out.1, by simp, HNX.out.2.1, HNX.out.2.2.1, HNX.out.2.2.2, rfl, by first | exact (up_val HWI.out).trans (by rw [HPN.out]) | (rw [HPN.out]; rfl), by first | (rw [HWK.out]; rfl) | rfl, by first | exact up_val HWI.out | rfl, HXR.out, HBR.out⟩, by first | exact up_end HIT.out HWI.out | (have hh := HIT.out; simp [intOf]; omega)⟩
    · have tn : ¬ kq < 0 := by omega
      obtain ⟨j, rfl⟩ : ∃ j, q = j + 1 := ⟨q - 1, by omega⟩
      have hjl : j < l.length := by omega
      obtain ⟨x, hx⟩ : ∃ x, l[j]? = some x := ⟨l[j], List.getElem?_eq_getElem hjl⟩
      have hln : ln c l (j + 1) = x.line := by
        show (l.getD j stp0).line = _
        rw [List.getD_eq_getElem?_getD, hx]; rfl
      obtain ⟨ho, hl4⟩ := HONE.out x (List.mem_of_getElem? hx)
      have hc50 : c.line.length ≤ 32768 := by
        have h1 := HTL.out
        have h2 := (pre_le c l 1 (l.length)).1
        rw [show 1 + l.length = l.length + 1 by omega, pre_all] at h2
        have h3 : (pre c l 1).length = c.line.length + 1 := by show ([] ++ (c.line ++ [10])).length = _; simp
        omega
      rw [if_neg (by omega)]
      rw [hln] at hex
      have hcat : strOf (c.line ++ [10]) ++ strOf (x.line ++ [10]) = strOf (c.line ++ 10 :: (x.line ++ [10])) := by rw [← strOf_app]; simp
      have HKQ2 : Hid (∀ W, Below w.heap.size w W → Calls Tryz.prog 10 #[.string (strOf (c.line ++ [10]) ++ strOf (x.line ++ [10]))] W fun e w' => (∃ g2 cap2, e = .returned (.tuple #[.agg #[.int .i64 c.ru, .int .i64 c.le, .int .i64 c.re, .int .i64 c.att, .int .i64 c.wi, .int .i64 c.qu, .int .i64 c.bl, .int .i64 c.ev, .int .i64 c.ha], .slice (some ⟨g2, 0, none⟩) 1 cap2, .int .i64 0, .int .i64 0]) ∧ Cells5 w' g2 x) ∧ Below W.heap.size W w') := Lib.hid fun W hW => by
        have k := sparse_any (c.line ++ 10 :: (x.line ++ [10])) (by simp; omega) W (HA.out W hW)
        unfold SParseOut at k
        rw [ho] at k
        rw [hcat]
        refine k.mono ?_
        rintro e w' ⟨⟨A2, cap2, h1, h2⟩, hb⟩
        obtain ⟨g2, rfl, h3⟩ := row_one h2
        exact ⟨⟨g2, cap2, h1, h3⟩, hb⟩
      have z1 : (strOf (c.line ++ [10])).size = c.line.length + 1 := by rw [ba_size]; simp
      have z2 : (strOf (x.line ++ [10])).size = x.line.length + 1 := by rw [ba_size]; simp
      have hov : ¬ 9223372036854775807 < (strOf (c.line ++ [10])).size + (strOf (x.line ++ [10])).size := by omega
      obtain ⟨bA, offA, hAe, hbA, hcA⟩ := HC.out (by omega)
      have hst := (hcA j x hx).1
      have HST := Lib.hid (hst.keep HBR.out hbA)
      have tlk : ¬ (len : Int) ≤ kq := by omega
      have hkj : kq = (j : Int) := by omega
      have hjlen : (j : Int) < (len : Int) := by have := HLEN.out; omega
      have tlk2 : ¬ len ≤ j := by have := HLEN.out; omega
      have tlk3 : j < len := by have := HLEN.out; omega
      have tlk4 : (len ≤ j) = False := eq_false tlk2
      subst hkj
      have HBA := Lib.hid hbA
      subst hAe
      clear ho hl4 hc50 hcat z1 z2 hst hcA hx hjl hln hbA hi0 hi3 hq hql hql2 hkq hpos
      generalize strOf (x.line ++ [10]) = LS at *
      obtain ⟨FS, hFS⟩ : ∃ F, strOf (c.line ++ [10]) = F := ⟨_, rfl⟩
      have HFS := Lib.hid hFS
      rw [hFS] at HKQ2 hov ⊢
      clear hFS
      generalize (pre c l (j + 1)).length = fq at *
      go_upto_region 14 with (go_at_call 10; refine (HKQ2.out _ HBR.out).mono ?_; rintro _ w6 ⟨⟨g2, cap2, rfl, h6⟩, hb6⟩; have HB6 := Lib.hid (grow_to HBR.out hb6); have HX6 := Lib.hid (HXR.out.keep hb6); have HM6 := Lib.hid h6; have HST6 := Lib.hid (HST.out.keep hb6 (Nat.lt_of_lt_of_le HBA.out HBR.out.size)); clear hb6 h6)
      have HD7 := Lib.hid (Cells.new w6 23 #[.int .i64 c.ru, .int .i64 c.le, .int .i64 c.re, .int .i64 c.att, .int .i64 c.wi, .int .i64 c.qu, .int .i64 c.bl, .int .i64 c.ev, .int .i64 c.ha])
      have HX7 := Lib.hid (HX6.out.alloc (.cells #[.int .i64 c.ru, .int .i64 c.le, .int .i64 c.re, .int .i64 c.att, .int .i64 c.wi, .int .i64 c.qu, .int .i64 c.bl, .int .i64 c.ev, .int .i64 c.ha] 23))
      have HB7 := Lib.hid (HB6.out.alloc HB6.out.size (.cells #[.int .i64 c.ru, .int .i64 c.le, .int .i64 c.re, .int .i64 c.att, .int .i64 c.wi, .int .i64 c.qu, .int .i64 c.bl, .int .i64 c.ev, .int .i64 c.ha] 23))
      have HM7 := Lib.hid (HM6.out.keep ((Below.refl w6.heap.size w6).alloc (Nat.le_refl _) (.cells #[.int .i64 c.ru, .int .i64 c.le, .int .i64 c.re, .int .i64 c.att, .int .i64 c.wi, .int .i64 c.qu, .int .i64 c.bl, .int .i64 c.ev, .int .i64 c.ha] 23)))
      have HST7 := Lib.hid (HST6.out.keep ((Below.refl w6.heap.size w6).alloc (Nat.le_refl _) (.cells #[.int .i64 c.ru, .int .i64 c.le, .int .i64 c.re, .int .i64 c.att, .int .i64 c.wi, .int .i64 c.qu, .int .i64 c.bl, .int .i64 c.ev, .int .i64 c.ha] 23)) (Nat.lt_of_lt_of_le HBA.out HB6.out.size))
      clear HX6 HB6 HM6 HST6 HST HKQ2
      generalize w6.alloc (.cells #[.int .i64 c.ru, .int .i64 c.le, .int .i64 c.re, .int .i64 c.att, .int .i64 c.wi, .int .i64 c.qu, .int .i64 c.bl, .int .i64 c.ev, .int .i64 c.ha] 23) = w7 at *
      generalize w6.heap.size = DB at *
      have dd0 : ∀ y : BW w7, y.val.cell? ⟨DB, 0, none⟩ = some (.int .i64 c.ru) := fun y => y.cell (HD7.out.cell (j := 0) rfl)
      have dd1 : ∀ y : BW w7, y.val.cell? ⟨DB, 1, none⟩ = some (.int .i64 c.le) := fun y => y.cell (HD7.out.cell (j := 1) rfl)
      have dd2 : ∀ y : BW w7, y.val.cell? ⟨DB, 2, none⟩ = some (.int .i64 c.re) := fun y => y.cell (HD7.out.cell (j := 2) rfl)
      have dd3 : ∀ y : BW w7, y.val.cell? ⟨DB, 3, none⟩ = some (.int .i64 c.att) := fun y => y.cell (HD7.out.cell (j := 3) rfl)
      have dd4 : ∀ y : BW w7, y.val.cell? ⟨DB, 4, none⟩ = some (.int .i64 c.wi) := fun y => y.cell (HD7.out.cell (j := 4) rfl)
      have dd5 : ∀ y : BW w7, y.val.cell? ⟨DB, 5, none⟩ = some (.int .i64 c.qu) := fun y => y.cell (HD7.out.cell (j := 5) rfl)
      have dd6 : ∀ y : BW w7, y.val.cell? ⟨DB, 6, none⟩ = some (.int .i64 c.bl) := fun y => y.cell (HD7.out.cell (j := 6) rfl)
      have dd7 : ∀ y : BW w7, y.val.cell? ⟨DB, 7, none⟩ = some (.int .i64 c.ev) := fun y => y.cell (HD7.out.cell (j := 7) rfl)
      have dd8 : ∀ y : BW w7, y.val.cell? ⟨DB, 8, none⟩ = some (.int .i64 c.ha) := fun y => y.cell (HD7.out.cell (j := 8) rfl)
      have cc0 : ∀ y : BW w7, y.val.cell? ⟨w.heap.size, 0, none⟩ = some (.int .i64 c.ru) := fun y => y.cell (HX7.out.cell (j := 0) rfl)
      have cc1 : ∀ y : BW w7, y.val.cell? ⟨w.heap.size, 1, none⟩ = some (.int .i64 c.le) := fun y => y.cell (HX7.out.cell (j := 1) rfl)
      have cc2 : ∀ y : BW w7, y.val.cell? ⟨w.heap.size, 2, none⟩ = some (.int .i64 c.re) := fun y => y.cell (HX7.out.cell (j := 2) rfl)
      have cc3 : ∀ y : BW w7, y.val.cell? ⟨w.heap.size, 3, none⟩ = some (.int .i64 c.att) := fun y => y.cell (HX7.out.cell (j := 3) rfl)
      have cc4 : ∀ y : BW w7, y.val.cell? ⟨w.heap.size, 4, none⟩ = some (.int .i64 c.wi) := fun y => y.cell (HX7.out.cell (j := 4) rfl)
      have cc5 : ∀ y : BW w7, y.val.cell? ⟨w.heap.size, 5, none⟩ = some (.int .i64 c.qu) := fun y => y.cell (HX7.out.cell (j := 5) rfl)
      have cc6 : ∀ y : BW w7, y.val.cell? ⟨w.heap.size, 6, none⟩ = some (.int .i64 c.bl) := fun y => y.cell (HX7.out.cell (j := 6) rfl)
      have cc7 : ∀ y : BW w7, y.val.cell? ⟨w.heap.size, 7, none⟩ = some (.int .i64 c.ev) := fun y => y.cell (HX7.out.cell (j := 7) rfl)
      have cc8 : ∀ y : BW w7, y.val.cell? ⟨w.heap.size, 8, none⟩ = some (.int .i64 c.ha) := fun y => y.cell (HX7.out.cell (j := 8) rfl)
      obtain ⟨m0, m1, m2, m3, m4⟩ := HM7.out
      obtain ⟨s0, s1, s2, s3, s4⟩ := HST7.out
      have mm0 : ∀ y : BW w7, y.val.cell? ⟨g2, 0, none⟩ = some (.int .i64 x.kind) := fun y => y.cell (by have := m0; simpa using this)
      have mm1 : ∀ y : BW w7, y.val.cell? ⟨g2, 1, none⟩ = some (.int .i64 x.a) := fun y => y.cell (by have := m1; simpa using this)
      have mm2 : ∀ y : BW w7, y.val.cell? ⟨g2, 2, none⟩ = some (.int .i64 x.k) := fun y => y.cell (by have := m2; simpa using this)
      have mm3 : ∀ y : BW w7, y.val.cell? ⟨g2, 3, none⟩ = some (.int .i64 x.x) := fun y => y.cell (by have := m3; simpa using this)
      have mm4 : ∀ y : BW w7, y.val.cell? ⟨g2, 4, none⟩ = some (.string x.str) := fun y => y.cell (by have := m4; simpa using this)
      have ss0 : ∀ y : BW w7, y.val.cell? ⟨bA, offA + j * 5, none⟩ = some (.int .i64 x.kind) := fun y => y.cell s0
      have ss1 : ∀ y : BW w7, y.val.cell? ⟨bA, offA + j * 5 + 1, none⟩ = some (.int .i64 x.a) := fun y => y.cell s1
      have ss2 : ∀ y : BW w7, y.val.cell? ⟨bA, offA + j * 5 + 2, none⟩ = some (.int .i64 x.k) := fun y => y.cell s2
      have ss3 : ∀ y : BW w7, y.val.cell? ⟨bA, offA + j * 5 + 3, none⟩ = some (.int .i64 x.x) := fun y => y.cell s3
      have ss4 : ∀ y : BW w7, y.val.cell? ⟨bA, offA + j * 5 + 4, none⟩ = some (.string x.str) := fun y => y.cell s4
      have hq1 := fun W => cfg_neq c c W
      rw [decide_eq_true rfl] at hq1
      have hq2 := fun W => step_neq x x W
      rw [decide_eq_true rfl] at hq2
      have j0 : (0 : Int) ≤ (j : Int) := by omega
      clear m0 m1 m2 m3 m4 s0 s1 s2 s3 s4
      generalize x.kind = xd at *; generalize x.a = xa at *; generalize x.k = xk at *; generalize x.x = xx at *; generalize x.str = XT at *
      refine wp_region_bw (w := w7) (by kernel_rfl) (by kernel_rfl) ?_
      repeat (refine wpQuiet_step (fun K hK => ?_); go_simp; first | (refine hK _ ?_; clear hK K) | (apply Exists.intro; refine ⟨fun _ => ?_, hK _ ?_⟩; (fail); clear hK K))
      refine wpQuiet_nil ?_
      intro yq
      have HX8 := Lib.hid (HX7.out.keep yq.below)
      have HB8 := Lib.hid (grow_to HB7.out yq.below)
      generalize yq.val = w8 at *
      go_wp2
      exact ⟨⟨j + 2, i + 1, (j : Int) + 1, HNX.out.1, by omega, HNX.out.2.1, HNX.out.2.2.1, HNX.out.2.2.2, by first | rfl | (rw [if_neg (by omega)]) | (rw [if_neg (by omega), HFS.out]), by first | exact (up_val HWI.out).trans (by rw [HPN.out]) | (rw [HPN.out]; rfl), by first | (rw [HWK.out]; exact congrArg (Value.int .i64) (by omega)) | rfl, by first | exact up_val HWI.out | rfl, HX8.out, HB8.out⟩, by first | exact up_end HIT.out HWI.out | (have hh := HIT.out; simp [intOf]; omega)⟩

-- LIFT
set_option maxHeartbeats 8000000 in
set_option maxRecDepth 100000 in
theorem contract (H : Type) (enc : TypeId × Value → H) (W : World) (base : Nat) (args : Array Value) (ds gs : List (DataW H)) (before : List MemPlace)
    (hval : ∀ (j : Nat) t v, Tryz.f6.params[j]? = some t → args[j]? = some v → Value.okWide Tryz.prog W .any base t v)
    (hW : DataW.Whole enc Tryz.prog Tryz.f6.params.toList Rows.scriptLinesSpec.vars false W args.toList ds gs before) (hk : Rows.uptoSmall H (ds ++ gs) = true) (hL : laidMetH Tryz.prog Rows.scriptLinesUptoRow.laid W) (hSh : W.ShapedOpen Tryz.prog) :
    Calls Tryz.prog 6 args W fun e W' => ∃ v, e = .returned v ∧ Rows.scriptLinesSpec.post enc Tryz.prog Tryz.f6 false true false false W args v W' := by
  have hAll := all_of (show laidMetH Tryz.prog laidOf W from hL)
  have hMax : MaxAt W := cell_of_shapedOpen_int hSh (g := 0) (t := 3) (zero := #[.int .i64 0]) (by decide +kernel) (by kernel_rfl) rfl (by kernel_rfl) (by kernel_rfl) Tryz.underlying3
  have hLib : LibAt W := ⟨hAll, hMax⟩
  clear hL
  have hts : Tryz.f6.params.toList.all (fun t => Tryz.prog.readableRec t && decide (t < Tryz.prog.types.size)) = true := by kernel_rfl
  have hW' := hW
  obtain ⟨p, q, hA0, hV, rfl, hfz, hnd⟩ := hW
  have hA : DataW.TrodAll enc Tryz.prog W 0 (fun _ => true) true Tryz.f6.params.toList args.toList ds p := hA0
  rw [Tryz.params6] at hA hval
  obtain ⟨v0, vs0, d0, ds0, p0, q0, hargs, rfl, rfl, h0, r0⟩ := trodAll_cons hA
  obtain ⟨v1, vs1, d1, ds1, p1, q1, rfl, rfl, rfl, h1, r1⟩ := trodAll_cons r0
  obtain ⟨rfl, rfl, rfl⟩ := trodAll_nil r1
  obtain rfl : args = #[v0, v1] := by cases args; simp_all
  obtain ⟨rfl, rfl⟩ := trodVars_none hV
  have hfn : Rows.scriptLinesSpec.fn H ([d0, d1] ++ []) = { results := [.lit (.bool true)], args := [d0, d1] } := rfl
  have hfin := fun W' (hbel : Below W.heap.size W W') => law_post (f := Tryz.f6) (s := Rows.scriptLinesSpec) 4 Tryz.laid hts rfl Tryz.underlying4 rfl hfn hW' hbel
  clear hA0 hts hfn
  simp only [List.append_nil] at hk
  obtain ⟨cf0, rfl, cw0⟩ := open_cfg (hval 0 23 v0 rfl rfl) h0
  obtain ⟨a01, len1, cap1, rfl⟩ := okWide_slice Tryz.underlying24 (hval 1 24 v1 rfl rfl)
  obtain ⟨fu1, hf1⟩ := h1
  obtain ⟨A1, l1, c1, es1, hC1⟩ := open_steps (c1 := .slice a01 len1 cap1) hf1
  injection es1 with ea1 eb1 ec1
  subst ea1 eb1 ec1
  exact (walk cf0 cw0 a01 l1 cap1 W hC1 hLib).mono fun e W' ⟨he, hg⟩ => ⟨_, he, hfin W' hg⟩

theorem reads (os : Os) {H : Type} (enc : TypeId × Value → H) : ∃ places, DataW.whole enc Tryz.prog ((laidWorld os).forCall (fun _ _ => 0) ⟨#[], #[.agg #[.int .i64 0, .int .i64 0, .int .i64 0, .int .i64 0, .int .i64 0, .int .i64 0, .int .i64 0, .int .i64 0, .int .i64 0], .slice none 0 0], []⟩).memory Tryz.f6.params.toList Rows.scriptLinesSpec.vars false #[.agg #[.int .i64 0, .int .i64 0, .int .i64 0, .int .i64 0, .int .i64 0, .int .i64 0, .int .i64 0, .int .i64 0, .int .i64 0], .slice none 0 0].toList 8 = some ([.agg [.lit (.int .i64 0), .lit (.int .i64 0), .lit (.int .i64 0), .lit (.int .i64 0), .lit (.int .i64 0), .lit (.int .i64 0), .lit (.int .i64 0), .lit (.int .i64 0), .lit (.int .i64 0)], .nil], [], places) :=
  ⟨[], by kernel_rfl⟩
theorem laid_met (os : Os) : laidMet Tryz.prog Rows.scriptLinesUptoRow.laid ((laidWorld os).forCall (fun _ _ => 0) ⟨#[], #[.agg #[.int .i64 0, .int .i64 0, .int .i64 0, .int .i64 0, .int .i64 0, .int .i64 0, .int .i64 0, .int .i64 0, .int .i64 0], .slice none 0 0], []⟩).memory := laid_here os #[.agg #[.int .i64 0, .int .i64 0, .int .i64 0, .int .i64 0, .int .i64 0, .int .i64 0, .int .i64 0, .int .i64 0, .int .i64 0], .slice none 0 0]

set_option maxHeartbeats 8000000 in
set_option maxRecDepth 100000 in
theorem lifted (os : Os) (started : os.Started) (H : Type) (enc : TypeId × Value → H) (F : Stop.Interp) :
    ReturnsInHanded {} Tryz.checked os 6 .any ((Rows.OpenSpec.upto Rows.scriptLinesSpec).preRow enc Tryz.prog Tryz.f6 Rows.scriptLinesUptoRow.domain false Rows.scriptLinesUptoRow.laid) (((Rows.OpenSpec.upto Rows.scriptLinesSpec).at F).post enc Tryz.prog Tryz.f6 false true false false) := by
  obtain ⟨places, hx⟩ := reads os enc
  refine returnsInHanded_of_row (C := Tryz.checked) (s := Rows.OpenSpec.upto Rows.scriptLinesSpec) Tryz.own started (by kernel_rfl) Tryz.func6
    (witness_row_atRef (enc := enc) (C := Tryz.checked) false (laidWorld os) #[.agg #[.int .i64 0, .int .i64 0, .int .i64 0, .int .i64 0, .int .i64 0, .int .i64 0, .int .i64 0, .int .i64 0, .int .i64 0], .slice none 0 0] rfl (by kernel_rfl) (by kernel_rfl) (by kernel_rfl)
      (OpenSpec.preRow_of_cond 8 hx (by kernel_rfl) (fun k hk => by cases hk; kernel_rfl) (by kernel_rfl) (laid_met os))) ?_
  intro W base args ds gs before hval hW _ hk _ hL hSh _
  exact contract H enc W base args ds gs before hval hW (hk _ rfl) hL hSh

theorem said : Rows.ScriptLinesUptoSaid :=
  OpenClaim.holds_of_cond 6 Tryz.f6 rfl rfl rfl rfl rfl rfl rfl ⟨rfl, rfl, rfl, rfl, rfl⟩ rfl rfl rfl rfl rfl (by kernel_rfl) Tryz.func6 (by kernel_rfl)
    (of_decide_eq_true (by kernel_rfl)) (by unfold Func.isWrapper; first | (rw [if_pos (by decide +kernel)]; kernel_rfl) | (rw [if_neg (by decide +kernel)]; exact ⟨rfl, rfl⟩))
    (fun os started H enc _ F => by rw [OpenClaim.pre_eq_preRow]; exact lifted os started H enc F)

theorem plain (f : FuncId) (fn : Func) (hf : Tryz.pinned.checked.prog.funcNamed "gaffer/gafferlaw23.ScriptLines" = some f) (hfn : Tryz.pinned.checked.prog.funcs[f]? = some fn) :
    true = Tryz.pinned.checked.prog.looks [] ∧ ∀ (j : Nat) t, fn.params[j]? = some t → Tryz.pinned.checked.prog.wantsStandIn t = false := by
  obtain rfl : f = 6 := Option.some.inj ((show Tryz.prog.funcNamed "gaffer/gafferlaw23.ScriptLines" = some 6 by kernel_rfl).symm.trans hf) |>.symm
  obtain rfl : fn = Tryz.f6 := (Option.some.inj (Tryz.func6.symm.trans hfn)).symm
  refine ⟨by kernel_rfl, fun j t ht => ?_⟩
  rw [Tryz.params6] at ht
  have hm := Array.mem_of_getElem? ht
  simp only [List.mem_toArray, List.mem_cons, List.not_mem_nil, or_false] at hm
  rcases hm with rfl | rfl
  · exact (show Tryz.prog.wantsStandIn 23 = false by kernel_rfl)
  · exact (show Tryz.prog.wantsStandIn 24 = false by kernel_rfl)

theorem proved : Rows.ScriptLinesUptoCardSaid :=
  Claim7.holds_tied_plain_at .later [] _ _ _ _ said (fun _ h => by cases h) (by kernel_rfl) (fun _ h => by cases h) scriptLinesUpto_row_tie rfl ⟨rfl, rfl⟩ (by kernel_rfl) rfl plain (by kernel_rfl)

end Go.Proofs.YtdkencepmdfacaaGreatDoor.scriptLines
