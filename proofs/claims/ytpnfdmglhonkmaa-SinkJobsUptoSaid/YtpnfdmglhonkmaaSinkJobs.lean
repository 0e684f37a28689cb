/- SinkJobs: jobs stand apart: puts of unlike jobs may be done job by job. Condition: the argument is of bulk at most 1048576. -/
import Derived.StillTailTactics
import Derived.Test.YtpnfdmglhonkmaaTwo
set_option maxRecDepth 100000
namespace Go.Proofs.Ytpnfdmglhonkmaa.sinkJobs
open Go.RowKit Go.WideShapes Go.ChangeShapes Go.ChangeAt Go.Maps
open Go.ChangeMaps (open_string shut_string)

/-! ### The plain law -/
theorem new_congr {s s' : Snk} {o : SOp} (h : s.art o.job = s'.art o.job) : s.new o.job o.badge o.index o.text = s'.new o.job o.badge o.index o.text := by
  unfold Snk.new Snk.err Snk.badge Snk.count
  rw [h]

theorem op_other {s : Snk} {o : SOp} {j : Int} (h : o.job ≠ j) : (s.op o).art j = s.art j := by
  unfold Snk.op Snk.put
  split
  · simp only [Snk.takeIn]
    rw [if_neg (fun e => h e.symm)]
  · rfl

theorem op_same {s s' : Snk} {o : SOp} (h : s.art o.job = s'.art o.job) : (s.op o).art o.job = (s'.op o).art o.job := by
  unfold Snk.op Snk.put
  rw [new_congr h]
  split
  · simp only [Snk.takeIn, if_true, Snk.pieces, h]
  · exact h

/-- what one job's puts lead to, and how many of them are admitted -/
def S1 (a : Option Art) : Snk := ⟨fun _ => a, [], []⟩
def adm (a : Option Art) (o : SOp) : Nat := if (S1 a).new o.job o.badge o.index o.text = true then 1 else 0
def fin (j : Int) : Option Art → List SOp → Option Art
  | a, [] => a
  | a, o :: l => if o.job = j then fin j (((S1 a).op o).art j) l else fin j a l
def cnt (j : Int) : Option Art → List SOp → Nat
  | _, [] => 0
  | a, o :: l => if o.job = j then adm a o + cnt j (((S1 a).op o).art j) l else cnt j a l

theorem ops_art (j : Int) : ∀ (l : List SOp) (s : Snk), (s.ops l).art j = fin j (s.art j) l
  | [], s => rfl
  | o :: l, s => by
    show ((s.op o).ops l).art j = _
    rw [ops_art j l, fin]
    by_cases h : o.job = j
    · rw [if_pos h]
      subst h
      congr 1
      exact op_same rfl
    · rw [if_neg h, op_other h]

theorem op_news (s : Snk) (o : SOp) : (s.op o).news.length = s.news.length + adm (s.art o.job) o := by
  unfold adm
  rw [new_congr (s := S1 (s.art o.job)) (s' := s) rfl]
  unfold Snk.op Snk.put
  split
  · rename_i h
    simp [Snk.takeIn]
  · rfl

theorem adm_out {a : Option Art} {o : SOp} (h : ¬ (1 ≤ o.job ∧ o.job ≤ 8)) : adm a o = 0 := by
  unfold adm
  have : (S1 a).new o.job o.badge o.index o.text = false := by
    unfold Snk.new Snk.err
    rw [if_pos (by omega)]
    exact decide_eq_false (by omega)
  rw [this]
  rfl

/-- the news of a job's puts, one job after the other -/
def total (art : Int → Option Art) (l : List SOp) : Nat := cnt 1 (art 1) l + cnt 2 (art 2) l + cnt 3 (art 3) l + cnt 4 (art 4) l + cnt 5 (art 5) l + cnt 6 (art 6) l + cnt 7 (art 7) l + cnt 8 (art 8) l

theorem cnt_other {j : Int} {a : Option Art} {o : SOp} {l : List SOp} (h : o.job ≠ j) : cnt j a (o :: l) = cnt j a l := by
  rw [cnt, if_neg h]
theorem cnt_same {j : Int} {a : Option Art} {o : SOp} {l : List SOp} (h : o.job = j) : cnt j a (o :: l) = adm a o + cnt j (((S1 a).op o).art j) l := by
  rw [cnt, if_pos h]

theorem ops_total : ∀ (l : List SOp) (s : Snk), (s.ops l).news.length = s.news.length + total s.art l
  | [], s => rfl
  | o :: l, s => by
    show ((s.op o).ops l).news.length = _
    rw [ops_total l, op_news]
    by_cases hin : 1 ≤ o.job ∧ o.job ≤ 8
    · have key : ∀ j : Int, cnt j (s.art j) (o :: l) = (if o.job = j then adm (s.art o.job) o else 0) + cnt j ((s.op o).art j) l := by
        intro j
        by_cases h : o.job = j
        · rw [if_pos h, cnt_same h]
          subst h
          rw [op_same (s := S1 (s.art o.job)) (s' := s) rfl]
        · rw [if_neg h, cnt_other h, op_other h, Nat.zero_add]
      unfold total
      rw [key 1, key 2, key 3, key 4, key 5, key 6, key 7, key 8]
      rcases (by omega : o.job = 1 ∨ o.job = 2 ∨ o.job = 3 ∨ o.job = 4 ∨ o.job = 5 ∨ o.job = 6 ∨ o.job = 7 ∨ o.job = 8) with h | h | h | h | h | h | h | h <;> rw [h] <;> simp <;> omega
    · rw [adm_out hin]
      unfold total
      rw [cnt_other (j := 1) (by omega), cnt_other (j := 2) (by omega), cnt_other (j := 3) (by omega), cnt_other (j := 4) (by omega), cnt_other (j := 5) (by omega), cnt_other (j := 6) (by omega), cnt_other (j := 7) (by omega), cnt_other (j := 8) (by omega)]
      rw [op_other (j := 1) (by omega), op_other (j := 2) (by omega), op_other (j := 3) (by omega), op_other (j := 4) (by omega), op_other (j := 5) (by omega), op_other (j := 6) (by omega), op_other (j := 7) (by omega), op_other (j := 8) (by omega)]
      omega

/-- the puts of one job alone -/
def only (j : Int) (l : List SOp) : List SOp := l.filter fun o => decide (o.job = j)

theorem fin_only (j : Int) : ∀ (l : List SOp) (a : Option Art), fin j a (only j l) = fin j a l
  | [], a => rfl
  | o :: l, a => by
    unfold only
    by_cases h : o.job = j
    · rw [List.filter_cons_of_pos (by simpa using h)]
      rw [fin, fin, if_pos h, if_pos h]
      exact fin_only j l _
    · rw [List.filter_cons_of_neg (by simpa using h)]
      rw [fin, if_neg h]
      exact fin_only j l a
theorem cnt_only (j : Int) : ∀ (l : List SOp) (a : Option Art), cnt j a (only j l) = cnt j a l
  | [], a => rfl
  | o :: l, a => by
    unfold only
    by_cases h : o.job = j
    · rw [List.filter_cons_of_pos (by simpa using h), cnt_same h, cnt_same h]
      congr 1
      exact cnt_only j l _
    · rw [List.filter_cons_of_neg (by simpa using h), cnt_other h]
      exact cnt_only j l a
theorem fin_not (j i : Int) (h : j ≠ i) : ∀ (l : List SOp) (a : Option Art), fin i a (only j l) = a
  | [], a => rfl
  | o :: l, a => by
    unfold only
    by_cases e : o.job = j
    · rw [List.filter_cons_of_pos (by simpa using e), fin, if_neg (by omega)]
      exact fin_not j i h l a
    · rw [List.filter_cons_of_neg (by simpa using e)]
      exact fin_not j i h l a
theorem cnt_not (j i : Int) (h : j ≠ i) : ∀ (l : List SOp) (a : Option Art), cnt i a (only j l) = 0
  | [], a => rfl
  | o :: l, a => by
    unfold only
    by_cases e : o.job = j
    · rw [List.filter_cons_of_pos (by simpa using e), cnt_other (by omega)]
      exact cnt_not j i h l a
    · rw [List.filter_cons_of_neg (by simpa using e)]
      exact cnt_not j i h l a

/-- the second sink behind the jobs above k -/
def upto (l : List SOp) : Nat → Snk
  | 0 => Snk.none
  | n + 1 => (upto l n).ops (only (8 - (n : Int)) l)

theorem upto_art (l : List SOp) : ∀ (n : Nat) (j : Int), n ≤ 8 → (upto l n).art j = if 8 - (n : Int) < j ∧ j ≤ 8 then (Snk.none.ops l).art j else Option.none
  | 0, j, _ => by
    rw [if_neg (by omega)]
    rfl
  | n + 1, j, hn => by
    show ((upto l n).ops (only (8 - (n : Int)) l)).art j = _
    rw [ops_art, upto_art l n j (by omega)]
    by_cases h : 8 - (n : Int) = j
    · subst h
      rw [if_neg (by omega), fin_only, if_pos (by omega), ops_art]
      rfl
    · rw [fin_not _ _ h]
      by_cases h2 : 8 - (n : Int) < j ∧ j ≤ 8
      · rw [if_pos h2, if_pos (by omega)]
      · rw [if_neg h2, if_neg (by omega)]
theorem ops_out (l : List SOp) (j : Int) (h : ¬ (1 ≤ j ∧ j ≤ 8)) : (Snk.none.ops l).art j = Option.none := by
  rw [ops_art]
  show fin j Option.none l = Option.none
  induction l with
  | nil => rfl
  | cons o l ih =>
    rw [fin]
    by_cases e : o.job = j
    · rw [if_pos e]
      have : ((S1 Option.none).op o).art j = Option.none := by
        unfold Snk.op Snk.put
        have : (S1 Option.none).new o.job o.badge o.index o.text = false := by
          unfold Snk.new Snk.err
          rw [if_pos (by omega)]
          exact decide_eq_false (by omega)
        rw [this]
        rfl
      rw [this]
      exact ih
    · rw [if_neg e]
      exact ih

theorem upto_all (l : List SOp) (j : Int) : (Snk.none.ops l).art j = (upto l 8).art j := by
  rw [upto_art l 8 j (by omega)]
  by_cases h : 8 - ((8 : Nat) : Int) < j ∧ j ≤ 8
  · rw [if_pos h]
  · rw [if_neg h, ops_out l j (by omega)]

theorem upto_news (l : List SOp) : (upto l 8).news.length = (Snk.none.ops l).news.length := by
  have step : ∀ n : Nat, n < 8 → (upto l (n + 1)).news.length = (upto l n).news.length + cnt (8 - (n : Int)) Option.none l := by
    intro n hn
    show ((upto l n).ops (only (8 - (n : Int)) l)).news.length = _
    rw [ops_total]
    congr 1
    have ha : (upto l n).art (8 - (n : Int)) = Option.none := by rw [upto_art l n _ (by omega), if_neg (by omega)]
    have key : ∀ i : Int, cnt i ((upto l n).art i) (only (8 - (n : Int)) l) = if 8 - (n : Int) = i then cnt (8 - (n : Int)) Option.none l else 0 := by
      intro i
      by_cases h : 8 - (n : Int) = i
      · rw [if_pos h]
        subst h
        rw [ha, cnt_only]
      · rw [if_neg h, cnt_not _ _ h]
    unfold total
    rw [key 1, key 2, key 3, key 4, key 5, key 6, key 7, key 8]
    rcases (by omega : n = 0 ∨ n = 1 ∨ n = 2 ∨ n = 3 ∨ n = 4 ∨ n = 5 ∨ n = 6 ∨ n = 7) with h | h | h | h | h | h | h | h <;> subst h <;> simp
  rw [step 7 (by omega), step 6 (by omega), step 5 (by omega), step 4 (by omega), step 3 (by omega), step 2 (by omega), step 1 (by omega), step 0 (by omega), ops_total]
  show 0 + _ + _ + _ + _ + _ + _ + _ + _ = 0 + total (fun _ => Option.none) l
  rw [show total (fun _ => Option.none) l = cnt 1 Option.none l + cnt 2 Option.none l + cnt 3 Option.none l + cnt 4 Option.none l + cnt 5 Option.none l + cnt 6 Option.none l + cnt 7 Option.none l + cnt 8 Option.none l from rfl]
  rw [show (8 : Int) - ((0 : Nat) : Int) = 8 from rfl, show (8 : Int) - ((1 : Nat) : Int) = 7 from rfl, show (8 : Int) - ((2 : Nat) : Int) = 6 from rfl, show (8 : Int) - ((3 : Nat) : Int) = 5 from rfl, show (8 : Int) - ((4 : Nat) : Int) = 4 from rfl, show (8 : Int) - ((5 : Nat) : Int) = 3 from rfl, show (8 : Int) - ((6 : Nat) : Int) = 2 from rfl, show (8 : Int) - ((7 : Nat) : Int) = 1 from rfl]
  omega

theorem only_snoc {l : List SOp} {k : Nat} {o : SOp} {j : Int} (ho : l[k]? = some o) : only j (l.take (k + 1)) = only j (l.take k) ++ if o.job = j then [o] else [] := by
  rw [List.take_add_one, ho]
  unfold only
  rw [List.filter_append]
  congr 1
  by_cases h : o.job = j
  · rw [if_pos h]
    simp [h]
  · rw [if_neg h]
    simp [h]

theorem only_len (j : Int) (l : List SOp) : (only j l).length ≤ l.length := List.length_filter_le _ _

theorem upto_len (l : List SOp) : ∀ m : Nat, (upto l m).news.length ≤ m * l.length
  | 0 => by simp [upto, Snk.none]
  | m + 1 => by
    have h1 := ops_news (upto l m) (only (8 - (m : Int)) l)
    have h2 := upto_len l m
    have h3 := only_len (8 - (m : Int)) l
    show ((upto l m).ops (only (8 - (m : Int)) l)).news.length ≤ _
    rw [Nat.succ_mul]
    omega

theorem news_lt {l : List SOp} {m k : Nat} (hl : l.length < 1048577) (hm : m ≤ 8) : ((upto l m).ops (only (8 - (m : Int)) (l.take k))).news.length < 1073741824 := by
  have h1 := ops_news (upto l m) (only (8 - (m : Int)) (l.take k))
  have h2 := upto_len l m
  have h3 := only_len (8 - (m : Int)) (l.take k)
  rw [List.length_take] at h3
  have h4 := Nat.mul_le_mul hm (Nat.le_of_lt hl)
  omega

set_option maxHeartbeats 4000000 in
set_option maxRecDepth 100000 in
theorem walk (A : Option Addr) (c : Nat) (l : List SOp) (w : World) (hin : OpsIn w w.heap.size A l) (hfit : ∀ o ∈ l, o.Fit) (hlen : l.length < 1048577) :
    Calls Try.prog 5 #[.slice A l.length c] w fun e w' => e = .returned (.bool true) ∧ Below w.heap.size w w' := by
  have HA := Lib.hid awake_any
  have HIN := Lib.hid hin
  have HFIT := Lib.hid hfit
  clear hin hfit
  go_enter Try.func5, Try.ntmps5
  go_wp2_with fail
  refine (snkNew_any _).mono ?_
  rintro x w1 ⟨bm, g, rfl, hs1, hb1, hg1, hm1⟩
  go_wp2_with fail
  refine (snkNew_any _).mono ?_
  rintro x w2 ⟨bu, gu, rfl, hs2, hb2, hg2, hm2⟩
  have hP2 := pair_new hs1 hb1 hg1 hm1 hs2 hb2 hg2 hm2
  have HP2 := Lib.hid hP2
  clear hs1 hb1 hg1 hm1 hs2 hb2 hg2 hm2 hP2
  go_wp2_with fail
  refine (HA.out _).mono ?_
  rintro x w3 ⟨rfl, hb3⟩
  have HP3 := Lib.hid (HP2.out.keep hb3)
  clear hb3
  go_upto_region 5 with (fail)
  go_loopw [5] (fun i wr => ∃ (k : Nat) (nv : Value), k ≤ l.length ∧ i = .int .i64 (k : Int) ∧ Pair w wr g bm nv (Snk.none.ops (l.take k)) gu bu (.slice none 0 0) Snk.none) (fun i _ => l.length - (intOf i).toNat)
  case atStart => exact ⟨0, _, Nat.zero_le _, rfl, HP3.out⟩
  case round =>
    obtain ⟨k, nv, hk, rfl, hP⟩ := hrel
    have HP := Lib.hid hP
    clear hP
    by_cases hlt : k < l.length
    · obtain ⟨o, ho⟩ : ∃ o, l[k]? = some o := ⟨_, List.getElem?_eq_getElem hlt⟩
      obtain ⟨b0, off, rfl, hb0, hcell⟩ := (HIN.out.below HP.out.below) (by omega)
      have hoc := hcell k o ho
      have hof := HFIT.out o (List.mem_of_getElem? ho)
      have hi0 : (0 : Int) ≤ (k : Int) := by omega
      have hi1 : (k : Int) < (l.length : Int) := by omega
      have htk : Snk.none.ops (l.take (k + 1)) = (Snk.none.ops (l.take k)).op o := by
        rw [List.take_add_one, ho]
        exact ops_snoc _ _ _
      have HTK := Lib.hid htk
      have HNW := Lib.hid (show (Snk.none.ops (l.take k)).news.length < 1073741824 from by
        have := ops_news Snk.none (l.take k)
        have h2 : Snk.none.news.length = 0 := rfl
        rw [List.length_take] at this
        omega)
      have c2 := hoc.c2
      have c3 := hoc.c3
      have c4 := hoc.c4
      have c5 := hoc.c5
      have HOF := Lib.hid hof
      clear hoc hcell htk hof ho
      go_upto_region 7 with (fail)
      go_still_tail 21, (by kernel_rfl)
      have HD := Lib.hid (HP.out.keep (Below.refl wr.heap.size wr).drew)
      clear c2 c3 c4 c5
      change wpList _ _ _ _ _ wr.drew
      generalize wr.drew = wd at HD ⊢
      go_wp2_with fail
      refine (snkPut_any wd HD.out.a.at_ o.job o.badge o.index o.text (i64_wf HOF.out.job) HNW.out (Nat.lt_trans HOF.out.text (by decide))).mono ?_
      rintro x w5 ⟨rfl, nv5, hs, hl, ht⟩
      have HN := Lib.hid (HD.out.step hs hl ht)
      clear hs hl ht
      go_wp2
      go_roundw
      case rel => exact ⟨k + 1, nv5, by omega, by go_num, by rw [HTK.out]; exact HN.out⟩
      case measure => simp [intOf]; omega
    · obtain rfl : k = l.length := by omega
      have hi1 : ¬ ((l.length : Int) < (l.length : Int)) := by omega
      rw [List.take_length] at HP
      go_upto_region 9 with (fail)
      go_loopw [6] (fun j wr => ∃ (m : Nat) (nu : Value), m ≤ 8 ∧ j = .int .i64 (8 - (m : Int)) ∧ Pair w wr g bm nv (Snk.none.ops l) gu bu nu (upto l m)) (fun j _ => (intOf j).toNat)
      case atStart => exact ⟨0, _, by omega, rfl, HP.out⟩
      case round =>
        obtain ⟨m, nu, hm, rfl, hQ⟩ := hrel
        have HQ := Lib.hid hQ
        clear hQ
        by_cases hm8 : m < 8
        · have hg1 : (1 : Int) ≤ 8 - (m : Int) := by omega
          go_upto_region 12 with (fail)
          go_loopw [7] (fun i wr => ∃ (k : Nat) (nu : Value), k ≤ l.length ∧ i = .int .i64 (k : Int) ∧ Pair w wr g bm nv (Snk.none.ops l) gu bu nu ((upto l m).ops (only (8 - (m : Int)) (l.take k)))) (fun i _ => l.length - (intOf i).toNat)
          case atStart => exact ⟨0, _, Nat.zero_le _, rfl, HQ.out⟩
          case round =>
            obtain ⟨k, nu, hk, rfl, hR⟩ := hrel
            have HR := Lib.hid hR
            clear hR
            by_cases hlt : k < l.length
            · obtain ⟨o, ho⟩ : ∃ o, l[k]? = some o := ⟨_, List.getElem?_eq_getElem hlt⟩
              obtain ⟨b0, off, rfl, hb0, hcell⟩ := (HIN.out.below HR.out.below) (by omega)
              have hoc := hcell k o ho
              have hof := HFIT.out o (List.mem_of_getElem? ho)
              have hi0 : (0 : Int) ≤ (k : Int) := by omega
              have hi1 : (k : Int) < (l.length : Int) := by omega
              have HTK := Lib.hid (only_snoc (j := 8 - (m : Int)) ho)
              have HNW := Lib.hid (show ((upto l m).ops (only (8 - (m : Int)) (l.take k))).news.length < 1073741824 from news_lt hlen (by omega))
              have c2 := hoc.c2
              by_cases hj : o.job = 8 - (m : Int)
              · have hjb : (o.job == 8 - (m : Int)) = true := by rw [beq_iff_eq]; exact hj
                have c3 := hoc.c3
                have c4 := hoc.c4
                have c5 := hoc.c5
                have HOF := Lib.hid hof
                have HJ := Lib.hid hj
                clear hoc hcell hof ho hj
                go_upto_region 15 with (fail)
                go_still_tail 21, (by kernel_rfl)
                have HD := Lib.hid (HR.out.keep (Below.refl wr.heap.size wr).drew)
                clear c2 c3 c4 c5
                change wpList _ _ _ _ _ wr.drew
                generalize wr.drew = wd at HD ⊢
                go_wp2_with fail
                refine (snkPut_any wd HD.out.b.at_ o.job o.badge o.index o.text (i64_wf HOF.out.job) HNW.out (Nat.lt_trans HOF.out.text (by decide))).mono ?_
                rintro x w5 ⟨rfl, nv5, hs, hl, ht⟩
                have HN := Lib.hid (HD.out.symm.step hs hl ht).symm
                clear hs hl ht
                go_wp2
                go_roundw
                case rel => exact ⟨k + 1, nv5, by omega, by go_num, by rw [HTK.out, if_pos HJ.out, ops_snoc]; exact HN.out⟩
                case measure => simp [intOf]; omega
              · have hjb : (o.job == 8 - (m : Int)) = false := by rw [beq_eq_false_iff_ne]; exact hj
                have HJ := Lib.hid hj
                clear hoc hcell hof ho hj
                go_wp2
                go_roundw
                case rel => exact ⟨k + 1, nu, by omega, by go_num, by rw [HTK.out, if_neg HJ.out, List.append_nil]; exact HR.out⟩
                case measure => simp [intOf]; omega
            · obtain rfl : k = l.length := by omega
              have hi1 : ¬ ((l.length : Int) < (l.length : Int)) := by omega
              rw [List.take_length] at HR
              have hwr : IntKind.i64.wrap (8 - (m : Int) - 1) = 8 - ((m + 1 : Nat) : Int) := by rw [IntWalk.i64_in _ (by omega)]; omega
              go_wp2
              go_roundw
              case rel => exact ⟨m + 1, nu, by omega, rfl, HR.out⟩
              case measure => simp [intOf]; omega
        · obtain rfl : m = 8 := by omega
          have hg1 : ¬ ((1 : Int) ≤ 8 - ((8 : Nat) : Int)) := by omega
          have HFL := Lib.hid (And.intro (upto_all l) (upto_news l))
          clear hi1 hg1
          go_wp2_with fail
          refine (artefacts_any _ HQ.out.a.at_).mono ?_
          rintro x w5 ⟨v5, L5, rfl, ha5, hb5⟩
          obtain ⟨A5, c5, rfl⟩ := own_slice ha5.row
          have HQ5 := Lib.hid (HQ.out.keep hb5)
          have HA5 := Lib.hid ha5
          clear ha5 hb5
          go_wp2_with fail
          refine (artefacts_any _ HQ5.out.b.at_).mono ?_
          rintro x w6 ⟨v6, L6, rfl, ha6, hb6⟩
          obtain ⟨A6, c6, rfl⟩ := own_slice ha6.row
          have HQ6 := Lib.hid (HQ5.out.keep hb6)
          have HA6 := Lib.hid (And.intro (HA5.out.below hb6) ha6)
          clear ha6 hb6
          go_wp2_with fail
          refine (sameArts_any _ HA6.out.1 HA6.out.2 HFL.out.1 HQ6.out.a.at_.fit HA6.out.1.len).mono ?_
          rintro x w7 ⟨rfl, n7, hw7⟩
          have HQ7 := Lib.hid (show Pair w w7 g bm nv (Snk.none.ops l) gu bu nu (upto l 8) from hw7 ▸ HQ6.out.keep (below_drewN (Below.refl w6.heap.size w6) n7))
          clear hw7
          go_wp2_with fail
          refine (snkTold_any _ HQ7.out.a.at_).mono ?_
          rintro x w8 ⟨rfl, _, hev, hg8⟩
          obtain ⟨A8, c8, rfl⟩ := own_slice hev
          have HB8 := Lib.hid (show SnkAt w8 gu bu nu (upto l 8) from HQ7.out.two.told hg8)
          have HW8 := Lib.hid (show Below w.heap.size w w8 from HQ7.out.below.grown hg8 HQ7.out.below.size fun k hk => by cases hk; exact HQ7.out.a.g)
          clear hev hg8
          go_wp2_with fail
          refine (snkTold_any _ HB8.out).mono ?_
          rintro x w9 ⟨rfl, _, hev, hg9⟩
          obtain ⟨A9, c9, rfl⟩ := own_slice hev
          have HW9 := Lib.hid (show Below w.heap.size w w9 from HW8.out.grown hg9 HW8.out.size fun k hk => by cases hk; exact HQ7.out.b.g)
          clear hev hg9
          have hnn : (Snk.none.ops l).news.length = (upto l 8).news.length := HFL.out.2.symm
          rw [← hnn]
          generalize (Snk.none.ops l).news.length = nn
          go_wp2
          go_ret
          exact ⟨by simp, HW9.out⟩

-- LIFT
set_option maxRecDepth 100000 in
theorem contract (H : Type) (enc : TypeId × Value → H) (W : World) (base : Nat) (args : Array Value) (ds gs : List (DataW H)) (before : List MemPlace)
    (hval : ∀ (j : Nat) t v, Try.f5.params[j]? = some t → args[j]? = some v → Value.okWide Try.prog W .any base t v)
    (hW : DataW.Whole enc Try.prog Try.f5.params.toList Rows.sinkJobsSpec.vars false W args.toList ds gs before) (hk : Rows.uptoSmall H (ds ++ gs) = true) :
    Calls Try.prog 5 args W fun e W' => ∃ v, e = .returned v ∧ Rows.sinkJobsSpec.post enc Try.prog Try.f5 false true false false W args v W' := by
  have hts : Try.f5.params.toList.all (fun t => Try.prog.readableRec t && decide (t < Try.prog.types.size)) = true := by kernel_rfl
  have hW' := hW
  obtain ⟨p, q, hA0, hV, rfl, hfz, hnd⟩ := hW
  have hA : DataW.TrodAll enc Try.prog W 0 (fun _ => true) true Try.f5.params.toList args.toList ds p := hA0
  rw [Try.params5] at hA hval
  obtain ⟨v0, vs0, d0, ds0, p0, q0, hargs, rfl, rfl, h0, r0⟩ := trodAll_cons hA
  obtain ⟨rfl, rfl, rfl⟩ := trodAll_nil r0
  obtain rfl : args = #[v0] := by cases args; simp_all
  obtain ⟨rfl, rfl⟩ := trodVars_none hV
  have hfn : Rows.sinkJobsSpec.fn H ([d0] ++ []) = { results := [.lit (.bool true)], args := [d0] } := rfl
  have hfin := fun W' (hbel : Below W.heap.size W W') => law_post (f := Try.f5) (s := Rows.sinkJobsSpec) 4 Try.laid hts rfl Try.underlying4 rfl hfn hW' hbel
  clear hA0 hts hfn
  simp only [List.append_nil] at hk
  obtain ⟨A0, c0, l0, rfl, sl0, fit0, len0⟩ := open_sops (hval 0 22 v0 rfl rfl) h0 (bulk_mem hk _ (by simp))
  exact (walk A0 c0 l0 W sl0 fit0 (by omega)).mono fun e W' ⟨he, hg⟩ => ⟨_, he, hfin W' hg⟩

set_option maxRecDepth 100000 in
theorem lifted (os : Os) (started : os.Started) (H : Type) (enc : TypeId × Value → H) (F : Stop.Interp) :
    ReturnsInHanded {} Try.checked os 5 .any ((Rows.OpenSpec.upto Rows.sinkJobsSpec).pre6 enc Try.prog Try.f5 Rows.sinkJobsUptoRow.domain false) (((Rows.OpenSpec.upto Rows.sinkJobsSpec).at F).post enc Try.prog Try.f5 false true false false) := by
  refine returnsInHanded_of_cond (C := Try.checked) (s := Rows.OpenSpec.upto Rows.sinkJobsSpec) (k := Rows.uptoSmall) rfl Try.own started (by kernel_rfl) Try.func5
    (OpenSpec.witness (enc := enc) (C := Try.checked) (s := Rows.OpenSpec.upto Rows.sinkJobsSpec) (k := Rows.uptoSmall) rfl false ⟨#[], #[.slice none 0 0], []⟩ 8 (by kernel_rfl) (by kernel_rfl) (by kernel_rfl)
      (x := ([.nil], [], [])) (by kernel_rfl) rfl (by kernel_rfl)) ?_
  intro W base args ds gs before hval hW _ hk _
  exact contract H enc W base args ds gs before hval hW hk

theorem proved : Rows.SinkJobsUptoSaid :=
  OpenClaim.holds_of_cond 5 Try.f5 rfl rfl rfl rfl rfl rfl rfl ⟨rfl, rfl, rfl, rfl, rfl⟩ rfl rfl rfl rfl rfl (by kernel_rfl) Try.func5 (by kernel_rfl)
    (of_decide_eq_true (by kernel_rfl)) (by unfold Func.isWrapper; first | (rw [if_pos (by decide +kernel)]; kernel_rfl) | (rw [if_neg (by decide +kernel)]; exact ⟨rfl, rfl⟩))
    (fun os started H enc _ F => lifted os started H enc F)

end Go.Proofs.Ytpnfdmglhonkmaa.sinkJobs
