/- The reference of layer 7: Check. -/
import Derived.Test.YtpnfdmglhonkmaaGreatRNamed
import Derived.Test.YtpnfdmglhonkmaaGreatCanon
import Derived.Test.YtpnfdmglhonkmaaGreatCheck
import Derived.BigQuiet
import Derived.Deep.QuietTactic
set_option maxRecDepth 100000
namespace Go.Proofs.YtpnfdmglhonkmaaGreat
open Go.RowKit

def rok1 (m : Mg) : Bool := rright m.kind 115 m.sess 1 1099511627776 && rright m.kind 110 m.num 1 1099511627776 && rright m.kind 106 m.job 1 8 && rright m.kind 98 m.badge 1 1099511627776
def rok2 (m : Mg) : Bool := rok1 m && rright m.kind 105 m.idx 0 (rmost m.kind).1 && rright m.kind 99 m.cnt 0 (rmost m.kind).2
def rok3 (m : Mg) : Bool := rok2 m && rright m.kind 114 m.code 0 7 && rright m.kind 116 m.text.size 0 32 && rright m.kind 112 m.prog.size 1 1024
def rbad1 (m : Mg) : Bool := decide (m.bits ≠ 0) && (!decide ((114 : UInt8) ∈ rword m.kind) || decide (m.code ≠ 0) || decide (canon m.bits ≠ m.bits))
def rbad2 (m : Mg) : Bool := decide (m.kind = 6) && decide (m.idx = 0) && decide (m.text ≠ ⟨#[]⟩)
/-- may a message be, as the document says it -/
def Mg.rcheck (m : Mg) : Int := if m.kind < 1 ∨ 16 < m.kind then 70 else if (rok3 m && !rbad1 m && !rbad2 m) = true then 0 else 71

theorem rword_not (k : Int) (h1 : 1 ≤ k) (h16 : k ≤ 16) : ¬ (str (rword k)).toList = [63] := by
  rw [ByteArray.toList_eq, str_data, rword_in h1 h16]
  have h : k.toNat ≤ 16 := by omega
  have h0 : k.toNat ≠ 0 := by omega
  generalize k.toNat = n at h h0 ⊢
  rcases n with _|_|_|_|_|_|_|_|_|_|_|_|_|_|_|_|_|n
  · omega
  all_goals first | decide | omega

theorem keep_ms {w wa wb : World} {g : Nat} {m : Mg} (hm : Ms wa g m) (hb : Below w.heap.size w wa) (h : Below wa.heap.size wa wb) : Ms wb g m ∧ Below w.heap.size w wb :=
  ⟨Cells.keep hm h, hb.trans (h.mono hb.size)⟩

set_option maxHeartbeats 4000000 in
set_option maxRecDepth 100000 in
theorem rCheck_any (m : Mg) (w : World) (hfit : m.Fit) :
    Calls Tryz.prog 24 #[m.val] w fun e w' => e = .returned (.int .i64 m.rcheck) ∧ Below w.heap.size w w' := by
  obtain ⟨W, hW⟩ : ∃ W, W = w.alloc (.cells m.cells 27) := ⟨_, rfl⟩
  have hm : Ms W w.heap.size m := by rw [hW]; exact Cells.newAt _ _ _ _ rfl
  have hBW : Below w.heap.size w W := by rw [hW]; exact below_new0 _ _
  have HW := Lib.hid hW
  clear hW
  have HK0 := Lib.hid (And.intro hm hBW)
  clear hm hBW
  have hnm := fun wx => rNamed_any m.kind wx
  by_cases hout : m.kind < 1 ∨ 16 < m.kind
  · have hchk : m.rcheck = 70 := by unfold Mg.rcheck; rw [if_pos hout]
    rw [rword_out hout, show str [63] = ⟨#[63]⟩ from rfl] at hnm
    have HN := Lib.hid hnm
    have HC := Lib.hid hchk
    clear hnm hchk hout
    obtain ⟨q0, q1, q2, q3, q4, q5, q6, q7, q8, q9, q10⟩ := HK0.out.1.all
    rw [HW.out] at q0
    go_enter Tryz.func24, Tryz.ntmps24
    go_wp2_with fail
    rw [← HW.out]
    refine (HN.out _).mono ?_
    rintro x w1 ⟨rfl, hb1⟩
    have HK1 := Lib.hid (keep_ms HK0.out.1 HK0.out.2 hb1)
    clear hb1
    go_wp2
    go_ret
    exact ⟨by rw [HC.out]; rfl, HK1.out.2⟩
  · have hne := rword_not m.kind (by omega) (by omega)
    have hneb : ((str (rword m.kind)).toList == [63]) = false := by rw [beq_eq_false_iff_ne]; exact hne
    have hchk : m.rcheck = if (rok3 m && !rbad1 m && !rbad2 m) = true then 0 else 71 := by unfold Mg.rcheck; rw [if_neg hout]
    have hmost := fun wx => rmost_any m.kind wx
    have hhas := fun wx => rhas_any m.kind 114 wx
    have hcan := fun wx => rcanon_any m.bits wx hfit.bits.1 hfit.bits.2
    have h1 := fun wx => rright_any m 115 m.sess 1 1099511627776 wx
    have h2 := fun wx => rright_any m 110 m.num 1 1099511627776 wx
    have h3 := fun wx => rright_any m 106 m.job 1 8 wx
    have h4 := fun wx => rright_any m 98 m.badge 1 1099511627776 wx
    have h5 := fun wx => rright_any m 105 m.idx 0 (rmost m.kind).1 wx
    have h6 := fun wx => rright_any m 99 m.cnt 0 (rmost m.kind).2 wx
    have h7 := fun wx => rright_any m 114 m.code 0 7 wx
    have h8 := fun wx => rright_any m 116 (m.text.size : Int) 0 32 wx
    have h9 := fun wx => rright_any m 112 (m.prog.size : Int) 1 1024 wx
    obtain ⟨B1, hB1⟩ : ∃ B1, B1 = rok1 m := ⟨_, rfl⟩
    obtain ⟨B2, hB2⟩ : ∃ B2, B2 = rok2 m := ⟨_, rfl⟩
    obtain ⟨B3, hB3⟩ : ∃ B3, B3 = rok3 m := ⟨_, rfl⟩
    unfold rok1 at hB1
    unfold rok2 at hB2
    unfold rok3 at hB3
    replace hB2 : B2 = (B1 && rright m.kind 105 m.idx 0 (rmost m.kind).1 && rright m.kind 99 m.cnt 0 (rmost m.kind).2) := by rw [hB1]; exact hB2
    replace hB3 : B3 = (B2 && rright m.kind 114 m.code 0 7 && rright m.kind 116 m.text.size 0 32 && rright m.kind 112 m.prog.size 1 1024) := by rw [hB2, hB1]; exact hB3
    replace hchk : m.rcheck = if (B3 && !rbad1 m && !rbad2 m) = true then 0 else 71 := by rw [hB3, hB2, hB1]; exact hchk
    have hQ : rbad1 m = (decide (m.bits ≠ 0) && (!decide ((114 : UInt8) ∈ rword m.kind) || decide (m.code ≠ 0) || decide (canon m.bits ≠ m.bits))) := rfl
    generalize rbad1 m = Q1 at hQ hchk
    have hQ2 : rbad2 m = (decide (m.kind = 6) && decide (m.idx = 0) && decide (m.text ≠ ⟨#[]⟩)) := rfl
    generalize rbad2 m = Q2 at hQ2 hchk
    clear hne
    generalize decide ((114 : UInt8) ∈ rword m.kind) = Bh at hQ hhas
    generalize canon m.bits = cb at hQ hcan
    generalize rword m.kind = wd at hnm hneb
    generalize (rmost m.kind).1 = mi at *
    generalize (rmost m.kind).2 = mc at *
    generalize rright m.kind 115 m.sess 1 1099511627776 = r1 at *
    generalize rright m.kind 110 m.num 1 1099511627776 = r2 at *
    generalize rright m.kind 106 m.job 1 8 = r3 at *
    generalize rright m.kind 98 m.badge 1 1099511627776 = r4 at *
    generalize rright m.kind 105 m.idx 0 mi = r5 at *
    generalize rright m.kind 99 m.cnt 0 mc = r6 at *
    generalize rright m.kind 114 m.code 0 7 = r7 at *
    generalize rright m.kind 116 (m.text.size : Int) 0 32 = r8 at *
    generalize rright m.kind 112 (m.prog.size : Int) 1 1024 = r9 at *
    have HN := Lib.hid hnm
    have HM := Lib.hid hmost
    have HH := Lib.hid hhas
    have HCN := Lib.hid hcan
    have HC := Lib.hid hchk
    have HQ := Lib.hid hQ
    have HQ2 := Lib.hid hQ2
    have HB1 := Lib.hid hB1
    have HB2 := Lib.hid hB2
    have HB3 := Lib.hid hB3
    have H1 := Lib.hid h1
    have H2 := Lib.hid h2
    have H3 := Lib.hid h3
    have H4 := Lib.hid h4
    have H5 := Lib.hid h5
    have H6 := Lib.hid h6
    have H7 := Lib.hid h7
    have H8 := Lib.hid h8
    have H9 := Lib.hid h9
    clear hnm hmost hhas hcan hchk hQ hQ2 hB1 hB2 hB3 h1 h2 h3 h4 h5 h6 h7 h8 h9
    obtain ⟨q0, q1, q2, q3, q4, q5, q6, q7, q8, q9, q10⟩ := HK0.out.1.all
    rw [HW.out] at q0 q1 q2 q3 q4 q5 q6 q7 q8 q9 q10
    go_enter Tryz.func24, Tryz.ntmps24
    go_wp2_with fail
    rw [← HW.out]
    refine (HN.out _).mono ?_
    rintro x wa ⟨rfl, hba⟩
    have HKa := Lib.hid (keep_ms HK0.out.1 HK0.out.2 hba)
    clear hba q0 q1 q2 q3 q4 q5 q6 q7 q8 q9 q10
    obtain ⟨q0, q1, q2, q3, q4, q5, q6, q7, q8, q9, q10⟩ := HKa.out.1.all
    go_wp2_with fail
    refine (HM.out _).mono ?_
    rintro x wb ⟨rfl, rfl⟩
    go_upto_region 4 with (fail)
    go_cut [5] (fun s5 wx => s5 = .bool B1 ∧ Ms wx w.heap.size m ∧ Below w.heap.size w wx)
    case first =>
      go_wp2_with fail
      refine (H1.out _).mono ?_
      rintro x w1 ⟨rfl, hb1⟩
      have HK1 := Lib.hid (keep_ms HKa.out.1 HKa.out.2 hb1)
      clear hb1 q0 q1 q2 q3 q4 q5 q6 q7 q8 q9 q10
      obtain ⟨q0, q1, q2, q3, q4, q5, q6, q7, q8, q9, q10⟩ := HK1.out.1.all
      cases r1 with
      | false =>
        go_wp2_with fail
        go_meet
        exact ⟨by rw [HB1.out]; rfl, HK1.out.1, HK1.out.2⟩
      | true =>
        go_wp2_with fail
        refine (H2.out _).mono ?_
        rintro x w2 ⟨rfl, hb2⟩
        have HK2 := Lib.hid (keep_ms HK1.out.1 HK1.out.2 hb2)
        clear hb2 q0 q1 q2 q3 q4 q5 q6 q7 q8 q9 q10
        obtain ⟨q0, q1, q2, q3, q4, q5, q6, q7, q8, q9, q10⟩ := HK2.out.1.all
        cases r2 with
        | false =>
          go_wp2_with fail
          go_meet
          exact ⟨by rw [HB1.out]; rfl, HK2.out.1, HK2.out.2⟩
        | true =>
          go_wp2_with fail
          refine (H3.out _).mono ?_
          rintro x w3 ⟨rfl, hb3⟩
          have HK3 := Lib.hid (keep_ms HK2.out.1 HK2.out.2 hb3)
          clear hb3 q0 q1 q2 q3 q4 q5 q6 q7 q8 q9 q10
          obtain ⟨q0, q1, q2, q3, q4, q5, q6, q7, q8, q9, q10⟩ := HK3.out.1.all
          cases r3 with
          | false =>
            go_wp2_with fail
            go_meet
            exact ⟨by rw [HB1.out]; rfl, HK3.out.1, HK3.out.2⟩
          | true =>
            go_wp2_with fail
            refine (H4.out _).mono ?_
            rintro x w4 ⟨rfl, hb4⟩
            have HK4 := Lib.hid (keep_ms HK3.out.1 HK3.out.2 hb4)
            clear hb4 q0 q1 q2 q3 q4 q5 q6 q7 q8 q9 q10
            obtain ⟨q0, q1, q2, q3, q4, q5, q6, q7, q8, q9, q10⟩ := HK4.out.1.all
            cases r4 with
            | false =>
              go_wp2_with fail
              go_meet
              exact ⟨by rw [HB1.out]; rfl, HK4.out.1, HK4.out.2⟩
            | true =>
              go_wp2_with fail
              go_meet
              exact ⟨by rw [HB1.out]; rfl, HK4.out.1, HK4.out.2⟩
    case rest =>
      obtain ⟨rfl, hmc, hbc⟩ := hcut
      have HKb := Lib.hid (And.intro hmc hbc)
      clear hmc hbc HB1 H1 H2 H3 H4 q0 q1 q2 q3 q4 q5 q6 q7 q8 q9 q10
      obtain ⟨q0, q1, q2, q3, q4, q5, q6, q7, q8, q9, q10⟩ := HKb.out.1.all
      go_upto_region 5 with (fail)
      go_cut [5] (fun s5 wx => s5 = .bool B2 ∧ Ms wx w.heap.size m ∧ Below w.heap.size w wx)
      case first =>
        cases B1 with
        | false =>
          go_wp2_with fail
          go_meet
          exact ⟨by rw [HB2.out]; rfl, HKb.out.1, HKb.out.2⟩
        | true =>
          go_wp2_with fail
          refine (H5.out _).mono ?_
          rintro x w5 ⟨rfl, hb5⟩
          have HK5 := Lib.hid (keep_ms HKb.out.1 HKb.out.2 hb5)
          clear hb5 q0 q1 q2 q3 q4 q5 q6 q7 q8 q9 q10
          obtain ⟨q0, q1, q2, q3, q4, q5, q6, q7, q8, q9, q10⟩ := HK5.out.1.all
          cases r5 with
          | false =>
            go_wp2_with fail
            go_meet
            exact ⟨by rw [HB2.out]; rfl, HK5.out.1, HK5.out.2⟩
          | true =>
            go_wp2_with fail
            refine (H6.out _).mono ?_
            rintro x w6 ⟨rfl, hb6⟩
            have HK6 := Lib.hid (keep_ms HK5.out.1 HK5.out.2 hb6)
            clear hb6 q0 q1 q2 q3 q4 q5 q6 q7 q8 q9 q10
            obtain ⟨q0, q1, q2, q3, q4, q5, q6, q7, q8, q9, q10⟩ := HK6.out.1.all
            cases r6 with
            | false =>
              go_wp2_with fail
              go_meet
              exact ⟨by rw [HB2.out]; rfl, HK6.out.1, HK6.out.2⟩
            | true =>
              go_wp2_with fail
              go_meet
              exact ⟨by rw [HB2.out]; rfl, HK6.out.1, HK6.out.2⟩
      case rest =>
        obtain ⟨rfl, hmc, hbc⟩ := hcut
        have HKc := Lib.hid (And.intro hmc hbc)
        clear hmc hbc HB2 H5 H6 q0 q1 q2 q3 q4 q5 q6 q7 q8 q9 q10
        obtain ⟨q0, q1, q2, q3, q4, q5, q6, q7, q8, q9, q10⟩ := HKc.out.1.all
        go_upto_region 6 with (fail)
        go_cut [5] (fun s5 wx => s5 = .bool B3 ∧ Ms wx w.heap.size m ∧ Below w.heap.size w wx)
        case first =>
          cases B2 with
          | false =>
            go_wp2_with fail
            go_meet
            exact ⟨by rw [HB3.out]; rfl, HKc.out.1, HKc.out.2⟩
          | true =>
            go_wp2_with fail
            refine (H7.out _).mono ?_
            rintro x w7 ⟨rfl, hb7⟩
            have HK7 := Lib.hid (keep_ms HKc.out.1 HKc.out.2 hb7)
            clear hb7 q0 q1 q2 q3 q4 q5 q6 q7 q8 q9 q10
            obtain ⟨q0, q1, q2, q3, q4, q5, q6, q7, q8, q9, q10⟩ := HK7.out.1.all
            cases r7 with
            | false =>
              go_wp2_with fail
              go_meet
              exact ⟨by rw [HB3.out]; rfl, HK7.out.1, HK7.out.2⟩
            | true =>
              go_wp2_with fail
              refine (H8.out _).mono ?_
              rintro x w8 ⟨rfl, hb8⟩
              have HK8 := Lib.hid (keep_ms HK7.out.1 HK7.out.2 hb8)
              clear hb8 q0 q1 q2 q3 q4 q5 q6 q7 q8 q9 q10
              obtain ⟨q0, q1, q2, q3, q4, q5, q6, q7, q8, q9, q10⟩ := HK8.out.1.all
              cases r8 with
              | false =>
                go_wp2_with fail
                go_meet
                exact ⟨by rw [HB3.out]; rfl, HK8.out.1, HK8.out.2⟩
              | true =>
                go_wp2_with fail
                refine (H9.out _).mono ?_
                rintro x w9 ⟨rfl, hb9⟩
                have HK9 := Lib.hid (keep_ms HK8.out.1 HK8.out.2 hb9)
                clear hb9 q0 q1 q2 q3 q4 q5 q6 q7 q8 q9 q10
                obtain ⟨q0, q1, q2, q3, q4, q5, q6, q7, q8, q9, q10⟩ := HK9.out.1.all
                cases r9 with
                | false =>
                  go_wp2_with fail
                  go_meet
                  exact ⟨by rw [HB3.out]; rfl, HK9.out.1, HK9.out.2⟩
                | true =>
                  go_wp2_with fail
                  go_meet
                  exact ⟨by rw [HB3.out]; rfl, HK9.out.1, HK9.out.2⟩
        case rest =>
          obtain ⟨rfl, hmc, hbc⟩ := hcut
          have HKd := Lib.hid (And.intro hmc hbc)
          clear hmc hbc HB3 H7 H8 H9 q0 q1 q2 q3 q4 q5 q6 q7 q8 q9 q10
          obtain ⟨q0, q1, q2, q3, q4, q5, q6, q7, q8, q9, q10⟩ := HKd.out.1.all
          have HKE := Lib.hid fun (wy : World) (h : Below wc.drew.heap.size wc.drew wy) => (show Ms wy w.heap.size m ∧ Below w.heap.size w wy from ⟨Cells.keep (HKd.out.1.drew) h, (HKd.out.2.drew).trans (h.mono HKd.out.2.size)⟩)
          go_upto_region 7 with (fail)
          go_cut [100] (fun s100 wx => s100 = .bool Q1 ∧ Ms wx w.heap.size m ∧ Below w.heap.size w wx)
          case first =>
            by_cases b0 : m.bits = 0
            · have t0 : (m.bits != 0) = false := by simp [b0]
              have hQv : Q1 = false := by rw [HQ.out, b0]; rfl
              have HQv := Lib.hid hQv
              clear hQv b0
              go_quiet (fail)
              go_wp2_with fail
              go_meet
              exact ⟨by rw [HQv.out], HKd.out.1, below_drewN HKd.out.2 _⟩
            · have t0 : (m.bits != 0) = true := by rw [bne_iff_ne]; exact b0
              have hQv : Q1 = (!Bh || decide (m.code ≠ 0) || decide (cb ≠ m.bits)) := by rw [HQ.out, decide_eq_true b0]; rfl
              have HQv := Lib.hid hQv
              clear hQv b0
              cases Bh with
              | false =>
                refine wp_region_noPanic ?_
                refine wp_region_held_drew (S := fun w' => w'.cell? ⟨w.heap.size, 0, none⟩ = some (.int .i64 m.kind) ∧ w'.cell? ⟨w.heap.size, 1, none⟩ = some (.int .i64 m.sess) ∧ w'.cell? ⟨w.heap.size, 2, none⟩ = some (.int .i64 m.num) ∧ w'.cell? ⟨w.heap.size, 3, none⟩ = some (.int .i64 m.job) ∧ w'.cell? ⟨w.heap.size, 4, none⟩ = some (.int .i64 m.badge) ∧ w'.cell? ⟨w.heap.size, 5, none⟩ = some (.int .i64 m.idx) ∧ w'.cell? ⟨w.heap.size, 6, none⟩ = some (.int .i64 m.cnt) ∧ w'.cell? ⟨w.heap.size, 7, none⟩ = some (.int .i64 m.code) ∧ w'.cell? ⟨w.heap.size, 8, none⟩ = some (.int .u64 m.bits) ∧ w'.cell? ⟨w.heap.size, 9, none⟩ = some (.string m.text) ∧ w'.cell? ⟨w.heap.size, 10, none⟩ = some (.string m.prog)) (by kernel_rfl) ⟨q0, q1, q2, q3, q4, q5, q6, q7, q8, q9, q10⟩ (fun hS => ?_)
                refine wpAnyH_take (i := 0) (v := ?_) rfl (by kernel_rfl) (by kernel_rfl) (by kernel_rfl) (fun _ _ _ h => h) (Or.inl ⟨by rfl, ?_⟩) hS ?_
                rotate_left
                · (intro wx hSx; (try dsimp only at hSx); go_simp; (try with_reducible rfl))
                simp only [List.getElem_toArray, List.getElem_cons_zero, Act.put, List.setIfInBounds_toArray, List.set_cons_zero, List.set_cons_succ]
                refine wpAnyH_take (i := 1) (v := ?_) rfl (by kernel_rfl) (by kernel_rfl) (by kernel_rfl) (fun _ _ _ h => h) (Or.inl ⟨by rfl, ?_⟩) hS ?_
                rotate_left
                · (intro wx hSx; (try dsimp only at hSx); go_simp; (try with_reducible rfl))
                simp only [List.getElem_toArray, List.getElem_cons_succ, List.getElem_cons_zero, Act.put, List.setIfInBounds_toArray, List.set_cons_zero, List.set_cons_succ]
                refine wpAnyH_take (i := 2) (v := ?_) rfl (by kernel_rfl) (by kernel_rfl) (by kernel_rfl) (fun _ _ _ h => h) (Or.inl ⟨by rfl, ?_⟩) hS ?_
                rotate_left
                · (intro wx hSx; (try dsimp only at hSx); go_simp; (try with_reducible rfl))
                simp only [List.getElem_toArray, List.getElem_cons_succ, List.getElem_cons_zero, Act.put, List.setIfInBounds_toArray, List.set_cons_zero, List.set_cons_succ]
                refine wpAnyH_take (i := 3) (v := ?_) rfl (by kernel_rfl) (by kernel_rfl) (by kernel_rfl) (fun _ _ _ h => h) (Or.inl ⟨by rfl, ?_⟩) hS ?_
                rotate_left
                · (intro wx hSx; (try dsimp only at hSx); go_simp; (try with_reducible rfl))
                simp only [List.getElem_toArray, List.getElem_cons_succ, List.getElem_cons_zero, Act.put, List.setIfInBounds_toArray, List.set_cons_zero, List.set_cons_succ]
                refine wpAnyH_take (i := 4) (v := ?_) rfl (by kernel_rfl) (by kernel_rfl) (by kernel_rfl) (fun _ _ _ h => h) (Or.inl ⟨by rfl, ?_⟩) hS ?_
                rotate_left
                · (intro wx hSx; (try dsimp only at hSx); go_simp; (try with_reducible rfl))
                simp only [List.getElem_toArray, List.getElem_cons_succ, List.getElem_cons_zero, Act.put, List.setIfInBounds_toArray, List.set_cons_zero, List.set_cons_succ]
                refine wpAnyH_take (i := 5) (v := ?_) rfl (by kernel_rfl) (by kernel_rfl) (by kernel_rfl) (fun _ _ _ h => h) (Or.inl ⟨by rfl, ?_⟩) hS ?_
                rotate_left
                · (intro wx hSx; (try dsimp only at hSx); go_simp; (try with_reducible rfl))
                simp only [List.getElem_toArray, List.getElem_cons_succ, List.getElem_cons_zero, Act.put, List.setIfInBounds_toArray, List.set_cons_zero, List.set_cons_succ]
                refine wpAnyH_take (i := 6) (v := ?_) rfl (by kernel_rfl) (by kernel_rfl) (by kernel_rfl) (fun _ _ _ h => h) (Or.inl ⟨by rfl, ?_⟩) hS ?_
                rotate_left
                · (intro wx hSx; (try dsimp only at hSx); go_simp; (try with_reducible rfl))
                simp only [List.getElem_toArray, List.getElem_cons_succ, List.getElem_cons_zero, Act.put, List.setIfInBounds_toArray, List.set_cons_zero, List.set_cons_succ]
                refine wpAnyH_ready (rs := [7]) (by kernel_rfl) (by simp) ?_
                refine AllReadyH.cons rfl (fun K hK => ?_) AllReadyH.nil
                go_simp
                go_at_call 47
                refine (HH.out _).mono ?_
                rintro x wn ⟨rfl, hbn⟩
                refine hK.out _ _ (HKE.out _ hbn).1.all (fun hS => ?_)
                clear hK K
                refine wpAnyH_take (i := 8) (v := ?_) rfl (by kernel_rfl) (by kernel_rfl) (by kernel_rfl) (fun _ _ _ h => h) (Or.inl ⟨by rfl, ?_⟩) hS ?_
                rotate_left
                · (intro wx hSx; (try dsimp only at hSx); go_simp; (try with_reducible rfl))
                simp only [List.getElem_toArray, List.getElem_cons_succ, List.getElem_cons_zero, Act.put, List.setIfInBounds_toArray, List.set_cons_zero, List.set_cons_succ]
                refine wpAnyH_take (i := 9) (v := ?_) rfl (by kernel_rfl) (by kernel_rfl) (by kernel_rfl) (fun _ _ _ h => h) (Or.inl ⟨by rfl, ?_⟩) hS ?_
                rotate_left
                · (intro wx hSx; (try dsimp only at hSx); go_simp; (try with_reducible rfl))
                simp only [List.getElem_toArray, List.getElem_cons_succ, List.getElem_cons_zero, Act.put, List.setIfInBounds_toArray, List.set_cons_zero, List.set_cons_succ]
                refine wpAnyH_take (i := 10) (v := undef) rfl (by kernel_rfl) (by kernel_rfl) (by kernel_rfl) (fun _ _ _ h => h) (Or.inr ⟨by rfl, rfl⟩) hS ?_
                simp only [List.getElem_toArray, List.getElem_cons_succ, List.getElem_cons_zero, Act.put, List.setIfInBounds_toArray, List.set_cons_zero, List.set_cons_succ]
                refine wpAnyH_take (i := 11) (v := undef) rfl (by kernel_rfl) (by kernel_rfl) (by kernel_rfl) (fun _ _ _ h => h) (Or.inr ⟨by rfl, rfl⟩) hS ?_
                simp only [List.getElem_toArray, List.getElem_cons_succ, List.getElem_cons_zero, Act.put, List.setIfInBounds_toArray, List.set_cons_zero, List.set_cons_succ]
                refine wpAnyH_take (i := 12) (v := undef) rfl (by kernel_rfl) (by kernel_rfl) (by kernel_rfl) (fun _ _ _ h => h) (Or.inr ⟨by rfl, rfl⟩) hS ?_
                simp only [List.getElem_toArray, List.getElem_cons_succ, List.getElem_cons_zero, Act.put, List.setIfInBounds_toArray, List.set_cons_zero, List.set_cons_succ]
                refine wpAnyH_take (i := 13) (v := undef) rfl (by kernel_rfl) (by kernel_rfl) (by kernel_rfl) (fun _ _ _ h => h) (Or.inr ⟨by rfl, rfl⟩) hS ?_
                simp only [List.getElem_toArray, List.getElem_cons_succ, List.getElem_cons_zero, Act.put, List.setIfInBounds_toArray, List.set_cons_zero, List.set_cons_succ]
                refine wpAnyH_take (i := 14) (v := ?_) rfl (by kernel_rfl) (by kernel_rfl) (by kernel_rfl) (fun _ _ _ h => h) (Or.inl ⟨by rfl, ?_⟩) hS ?_
                rotate_left
                · (intro wx hSx; (try dsimp only at hSx); go_simp; (try with_reducible rfl))
                simp only [List.getElem_toArray, List.getElem_cons_succ, List.getElem_cons_zero, Act.put, List.setIfInBounds_toArray, List.set_cons_zero, List.set_cons_succ]
                refine wpAnyH_take (i := 15) (v := ?_) rfl (by kernel_rfl) (by kernel_rfl) (by kernel_rfl) (fun _ _ _ h => h) (Or.inl ⟨by rfl, ?_⟩) hS ?_
                rotate_left
                · (intro wx hSx; (try dsimp only at hSx); go_simp; (try with_reducible rfl))
                simp only [List.getElem_toArray, List.getElem_cons_succ, List.getElem_cons_zero, Act.put, List.setIfInBounds_toArray, List.set_cons_zero, List.set_cons_succ]
                refine wpAnyH_take (i := 16) (v := undef) rfl (by kernel_rfl) (by kernel_rfl) (by kernel_rfl) (fun _ _ _ h => h) (Or.inr ⟨by rfl, rfl⟩) hS ?_
                simp only [List.getElem_toArray, List.getElem_cons_succ, List.getElem_cons_zero, Act.put, List.setIfInBounds_toArray, List.set_cons_zero, List.set_cons_succ]
                refine wpAnyH_take (i := 17) (v := undef) rfl (by kernel_rfl) (by kernel_rfl) (by kernel_rfl) (fun _ _ _ h => h) (Or.inr ⟨by rfl, rfl⟩) hS ?_
                simp only [List.getElem_toArray, List.getElem_cons_succ, List.getElem_cons_zero, Act.put, List.setIfInBounds_toArray, List.set_cons_zero, List.set_cons_succ]
                refine wpAnyH_take (i := 18) (v := undef) rfl (by kernel_rfl) (by kernel_rfl) (by kernel_rfl) (fun _ _ _ h => h) (Or.inr ⟨by rfl, rfl⟩) hS ?_
                simp only [List.getElem_toArray, List.getElem_cons_succ, List.getElem_cons_zero, Act.put, List.setIfInBounds_toArray, List.set_cons_zero, List.set_cons_succ]
                refine wpAnyH_take (i := 19) (v := undef) rfl (by kernel_rfl) (by kernel_rfl) (by kernel_rfl) (fun _ _ _ h => h) (Or.inr ⟨by rfl, rfl⟩) hS ?_
                simp only [List.getElem_toArray, List.getElem_cons_succ, List.getElem_cons_zero, Act.put, List.setIfInBounds_toArray, List.set_cons_zero, List.set_cons_succ]
                refine wpAnyH_take (i := 20) (v := undef) rfl (by kernel_rfl) (by kernel_rfl) (by kernel_rfl) (fun _ _ _ h => h) (Or.inr ⟨by rfl, rfl⟩) hS ?_
                simp only [List.getElem_toArray, List.getElem_cons_succ, List.getElem_cons_zero, Act.put, List.setIfInBounds_toArray, List.set_cons_zero, List.set_cons_succ]
                refine wpAnyH_take (i := 21) (v := undef) rfl (by kernel_rfl) (by kernel_rfl) (by kernel_rfl) (fun _ _ _ h => h) (Or.inr ⟨by rfl, rfl⟩) hS ?_
                simp only [List.getElem_toArray, List.getElem_cons_succ, List.getElem_cons_zero, Act.put, List.setIfInBounds_toArray, List.set_cons_zero, List.set_cons_succ]
                refine wpAnyH_take (i := 22) (v := undef) rfl (by kernel_rfl) (by kernel_rfl) (by kernel_rfl) (fun _ _ _ h => h) (Or.inr ⟨by rfl, rfl⟩) hS ?_
                simp only [List.getElem_toArray, List.getElem_cons_succ, List.getElem_cons_zero, Act.put, List.setIfInBounds_toArray, List.set_cons_zero, List.set_cons_succ]
                refine wpAnyH_take (i := 23) (v := undef) rfl (by kernel_rfl) (by kernel_rfl) (by kernel_rfl) (fun _ _ _ h => h) (Or.inr ⟨by rfl, rfl⟩) hS ?_
                simp only [List.getElem_toArray, List.getElem_cons_succ, List.getElem_cons_zero, Act.put, List.setIfInBounds_toArray, List.set_cons_zero, List.set_cons_succ]
                refine wpAnyH_take (i := 24) (v := ?_) rfl (by kernel_rfl) (by kernel_rfl) (by kernel_rfl) (fun _ _ _ h => h) (Or.inl ⟨by rfl, ?_⟩) hS ?_
                rotate_left
                · (intro wx hSx; (try dsimp only at hSx); go_simp; (try with_reducible rfl))
                simp only [List.getElem_toArray, List.getElem_cons_succ, List.getElem_cons_zero, Act.put, List.setIfInBounds_toArray, List.set_cons_zero, List.set_cons_succ]
                refine wpAnyH_take (i := 25) (v := ?_) rfl (by kernel_rfl) (by kernel_rfl) (by kernel_rfl) (fun _ _ _ h => h) (Or.inl ⟨by rfl, ?_⟩) hS ?_
                rotate_left
                · (intro wx hSx; (try dsimp only at hSx); go_simp; (try with_reducible rfl))
                simp only [List.getElem_toArray, List.getElem_cons_succ, List.getElem_cons_zero, Act.put, List.setIfInBounds_toArray, List.set_cons_zero, List.set_cons_succ]
                refine wpAnyH_done (by kernel_rfl) ?_ _
                refine NoPanic.normal ?_
                go_wp2_with fail
                go_meet
                exact ⟨by rw [HQv.out]; rfl, HKE.out _ hbn⟩
              | true =>
                by_cases c0 : m.code = 0
                · have t1 : (m.code != 0) = false := by simp [c0]
                  have u1 : decide (m.code ≠ 0) = false := by simp [c0]
                  have HQw := Lib.hid (HQv.out.trans (by rw [u1]))
                  clear u1 c0
                  by_cases d0 : cb = m.bits
                  · have t2 : (cb != m.bits) = false := by simp [d0]
                    have hQx : Q1 = false := by rw [HQw.out]; simp [d0]
                    have HQx := Lib.hid hQx
                    clear hQx d0
                    refine wp_region_noPanic ?_
                    refine wp_region_held_drew (S := fun w' => w'.cell? ⟨w.heap.size, 0, none⟩ = some (.int .i64 m.kind) ∧ w'.cell? ⟨w.heap.size, 1, none⟩ = some (.int .i64 m.sess) ∧ w'.cell? ⟨w.heap.size, 2, none⟩ = some (.int .i64 m.num) ∧ w'.cell? ⟨w.heap.size, 3, none⟩ = some (.int .i64 m.job) ∧ w'.cell? ⟨w.heap.size, 4, none⟩ = some (.int .i64 m.badge) ∧ w'.cell? ⟨w.heap.size, 5, none⟩ = some (.int .i64 m.idx) ∧ w'.cell? ⟨w.heap.size, 6, none⟩ = some (.int .i64 m.cnt) ∧ w'.cell? ⟨w.heap.size, 7, none⟩ = some (.int .i64 m.code) ∧ w'.cell? ⟨w.heap.size, 8, none⟩ = some (.int .u64 m.bits) ∧ w'.cell? ⟨w.heap.size, 9, none⟩ = some (.string m.text) ∧ w'.cell? ⟨w.heap.size, 10, none⟩ = some (.string m.prog)) (by kernel_rfl) ⟨q0, q1, q2, q3, q4, q5, q6, q7, q8, q9, q10⟩ (fun hS => ?_)
                    refine wpAnyH_take (i := 0) (v := ?_) rfl (by kernel_rfl) (by kernel_rfl) (by kernel_rfl) (fun _ _ _ h => h) (Or.inl ⟨by rfl, ?_⟩) hS ?_
                    rotate_left
                    · (intro wx hSx; (try dsimp only at hSx); go_simp; (try with_reducible rfl))
                    simp only [List.getElem_toArray, List.getElem_cons_zero, Act.put, List.setIfInBounds_toArray, List.set_cons_zero, List.set_cons_succ]
                    refine wpAnyH_take (i := 1) (v := ?_) rfl (by kernel_rfl) (by kernel_rfl) (by kernel_rfl) (fun _ _ _ h => h) (Or.inl ⟨by rfl, ?_⟩) hS ?_
                    rotate_left
                    · (intro wx hSx; (try dsimp only at hSx); go_simp; (try with_reducible rfl))
                    simp only [List.getElem_toArray, List.getElem_cons_succ, List.getElem_cons_zero, Act.put, List.setIfInBounds_toArray, List.set_cons_zero, List.set_cons_succ]
                    refine wpAnyH_take (i := 2) (v := ?_) rfl (by kernel_rfl) (by kernel_rfl) (by kernel_rfl) (fun _ _ _ h => h) (Or.inl ⟨by rfl, ?_⟩) hS ?_
                    rotate_left
                    · (intro wx hSx; (try dsimp only at hSx); go_simp; (try with_reducible rfl))
                    simp only [List.getElem_toArray, List.getElem_cons_succ, List.getElem_cons_zero, Act.put, List.setIfInBounds_toArray, List.set_cons_zero, List.set_cons_succ]
                    refine wpAnyH_take (i := 3) (v := ?_) rfl (by kernel_rfl) (by kernel_rfl) (by kernel_rfl) (fun _ _ _ h => h) (Or.inl ⟨by rfl, ?_⟩) hS ?_
                    rotate_left
                    · (intro wx hSx; (try dsimp only at hSx); go_simp; (try with_reducible rfl))
                    simp only [List.getElem_toArray, List.getElem_cons_succ, List.getElem_cons_zero, Act.put, List.setIfInBounds_toArray, List.set_cons_zero, List.set_cons_succ]
                    refine wpAnyH_take (i := 4) (v := ?_) rfl (by kernel_rfl) (by kernel_rfl) (by kernel_rfl) (fun _ _ _ h => h) (Or.inl ⟨by rfl, ?_⟩) hS ?_
                    rotate_left
                    · (intro wx hSx; (try dsimp only at hSx); go_simp; (try with_reducible rfl))
                    simp only [List.getElem_toArray, List.getElem_cons_succ, List.getElem_cons_zero, Act.put, List.setIfInBounds_toArray, List.set_cons_zero, List.set_cons_succ]
                    refine wpAnyH_take (i := 5) (v := ?_) rfl (by kernel_rfl) (by kernel_rfl) (by kernel_rfl) (fun _ _ _ h => h) (Or.inl ⟨by rfl, ?_⟩) hS ?_
                    rotate_left
                    · (intro wx hSx; (try dsimp only at hSx); go_simp; (try with_reducible rfl))
                    simp only [List.getElem_toArray, List.getElem_cons_succ, List.getElem_cons_zero, Act.put, List.setIfInBounds_toArray, List.set_cons_zero, List.set_cons_succ]
                    refine wpAnyH_take (i := 6) (v := ?_) rfl (by kernel_rfl) (by kernel_rfl) (by kernel_rfl) (fun _ _ _ h => h) (Or.inl ⟨by rfl, ?_⟩) hS ?_
                    rotate_left
                    · (intro wx hSx; (try dsimp only at hSx); go_simp; (try with_reducible rfl))
                    simp only [List.getElem_toArray, List.getElem_cons_succ, List.getElem_cons_zero, Act.put, List.setIfInBounds_toArray, List.set_cons_zero, List.set_cons_succ]
                    refine wpAnyH_ready (rs := [7]) (by kernel_rfl) (by simp) ?_
                    refine AllReadyH.cons rfl (fun K hK => ?_) AllReadyH.nil
                    go_simp
                    go_at_call 47
                    refine (HH.out _).mono ?_
                    rintro x wn ⟨rfl, hbn⟩
                    refine hK.out _ _ (HKE.out _ hbn).1.all (fun hS => ?_)
                    clear hK K
                    refine wpAnyH_take (i := 8) (v := ?_) rfl (by kernel_rfl) (by kernel_rfl) (by kernel_rfl) (fun _ _ _ h => h) (Or.inl ⟨by rfl, ?_⟩) hS ?_
                    rotate_left
                    · (intro wx hSx; (try dsimp only at hSx); go_simp; (try with_reducible rfl))
                    simp only [List.getElem_toArray, List.getElem_cons_succ, List.getElem_cons_zero, Act.put, List.setIfInBounds_toArray, List.set_cons_zero, List.set_cons_succ]
                    refine wpAnyH_take (i := 9) (v := ?_) rfl (by kernel_rfl) (by kernel_rfl) (by kernel_rfl) (fun _ _ _ h => h) (Or.inl ⟨by rfl, ?_⟩) hS ?_
                    rotate_left
                    · (intro wx hSx; (try dsimp only at hSx); go_simp; (try with_reducible rfl))
                    simp only [List.getElem_toArray, List.getElem_cons_succ, List.getElem_cons_zero, Act.put, List.setIfInBounds_toArray, List.set_cons_zero, List.set_cons_succ]
                    refine wpAnyH_take (i := 10) (v := ?_) rfl (by kernel_rfl) (by kernel_rfl) (by kernel_rfl) (fun _ _ _ h => h) (Or.inl ⟨by rfl, ?_⟩) hS ?_
                    rotate_left
                    · (intro wx hSx; (try dsimp only at hSx); go_simp; (try with_reducible rfl))
                    simp only [List.getElem_toArray, List.getElem_cons_succ, List.getElem_cons_zero, Act.put, List.setIfInBounds_toArray, List.set_cons_zero, List.set_cons_succ]
                    refine wpAnyH_take (i := 11) (v := ?_) rfl (by kernel_rfl) (by kernel_rfl) (by kernel_rfl) (fun _ _ _ h => h) (Or.inl ⟨by rfl, ?_⟩) hS ?_
                    rotate_left
                    · (intro wx hSx; (try dsimp only at hSx); go_simp; (try with_reducible rfl))
                    simp only [List.getElem_toArray, List.getElem_cons_succ, List.getElem_cons_zero, Act.put, List.setIfInBounds_toArray, List.set_cons_zero, List.set_cons_succ]
                    refine wpAnyH_take (i := 12) (v := ?_) rfl (by kernel_rfl) (by kernel_rfl) (by kernel_rfl) (fun _ _ _ h => h) (Or.inl ⟨by rfl, ?_⟩) hS ?_
                    rotate_left
                    · (intro wx hSx; (try dsimp only at hSx); go_simp; (try with_reducible rfl))
                    simp only [List.getElem_toArray, List.getElem_cons_succ, List.getElem_cons_zero, Act.put, List.setIfInBounds_toArray, List.set_cons_zero, List.set_cons_succ]
                    refine wpAnyH_take (i := 13) (v := ?_) rfl (by kernel_rfl) (by kernel_rfl) (by kernel_rfl) (fun _ _ _ h => h) (Or.inl ⟨by rfl, ?_⟩) hS ?_
                    rotate_left
                    · (intro wx hSx; (try dsimp only at hSx); go_simp; (try with_reducible rfl))
                    simp only [List.getElem_toArray, List.getElem_cons_succ, List.getElem_cons_zero, Act.put, List.setIfInBounds_toArray, List.set_cons_zero, List.set_cons_succ]
                    refine wpAnyH_take (i := 14) (v := ?_) rfl (by kernel_rfl) (by kernel_rfl) (by kernel_rfl) (fun _ _ _ h => h) (Or.inl ⟨by rfl, ?_⟩) hS ?_
                    rotate_left
                    · (intro wx hSx; (try dsimp only at hSx); go_simp; (try with_reducible rfl))
                    simp only [List.getElem_toArray, List.getElem_cons_succ, List.getElem_cons_zero, Act.put, List.setIfInBounds_toArray, List.set_cons_zero, List.set_cons_succ]
                    refine wpAnyH_take (i := 15) (v := ?_) rfl (by kernel_rfl) (by kernel_rfl) (by kernel_rfl) (fun _ _ _ h => h) (Or.inl ⟨by rfl, ?_⟩) hS ?_
                    rotate_left
                    · (intro wx hSx; (try dsimp only at hSx); go_simp; (try with_reducible rfl))
                    simp only [List.getElem_toArray, List.getElem_cons_succ, List.getElem_cons_zero, Act.put, List.setIfInBounds_toArray, List.set_cons_zero, List.set_cons_succ]
                    refine wpAnyH_take (i := 16) (v := ?_) rfl (by kernel_rfl) (by kernel_rfl) (by kernel_rfl) (fun _ _ _ h => h) (Or.inl ⟨by rfl, ?_⟩) hS ?_
                    rotate_left
                    · (intro wx hSx; (try dsimp only at hSx); go_simp; (try with_reducible rfl))
                    simp only [List.getElem_toArray, List.getElem_cons_succ, List.getElem_cons_zero, Act.put, List.setIfInBounds_toArray, List.set_cons_zero, List.set_cons_succ]
                    refine wpAnyH_take (i := 17) (v := ?_) rfl (by kernel_rfl) (by kernel_rfl) (by kernel_rfl) (fun _ _ _ h => h) (Or.inl ⟨by rfl, ?_⟩) hS ?_
                    rotate_left
                    · (intro wx hSx; (try dsimp only at hSx); go_simp; (try with_reducible rfl))
                    simp only [List.getElem_toArray, List.getElem_cons_succ, List.getElem_cons_zero, Act.put, List.setIfInBounds_toArray, List.set_cons_zero, List.set_cons_succ]
                    refine wpAnyH_take (i := 18) (v := ?_) rfl (by kernel_rfl) (by kernel_rfl) (by kernel_rfl) (fun _ _ _ h => h) (Or.inl ⟨by rfl, ?_⟩) hS ?_
                    rotate_left
                    · (intro wx hSx; (try dsimp only at hSx); go_simp; (try with_reducible rfl))
                    simp only [List.getElem_toArray, List.getElem_cons_succ, List.getElem_cons_zero, Act.put, List.setIfInBounds_toArray, List.set_cons_zero, List.set_cons_succ]
                    refine wpAnyH_take (i := 20) (v := ?_) rfl (by kernel_rfl) (by kernel_rfl) (by kernel_rfl) (fun _ _ _ h => h) (Or.inl ⟨by rfl, ?_⟩) hS ?_
                    rotate_left
                    · (intro wx hSx; (try dsimp only at hSx); go_simp; (try with_reducible rfl))
                    simp only [List.getElem_toArray, List.getElem_cons_succ, List.getElem_cons_zero, Act.put, List.setIfInBounds_toArray, List.set_cons_zero, List.set_cons_succ]
                    refine wpAnyH_take (i := 21) (v := ?_) rfl (by kernel_rfl) (by kernel_rfl) (by kernel_rfl) (fun _ _ _ h => h) (Or.inl ⟨by rfl, ?_⟩) hS ?_
                    rotate_left
                    · (intro wx hSx; (try dsimp only at hSx); go_simp; (try with_reducible rfl))
                    simp only [List.getElem_toArray, List.getElem_cons_succ, List.getElem_cons_zero, Act.put, List.setIfInBounds_toArray, List.set_cons_zero, List.set_cons_succ]
                    refine wpAnyH_take (i := 22) (v := ?_) rfl (by kernel_rfl) (by kernel_rfl) (by kernel_rfl) (fun _ _ _ h => h) (Or.inl ⟨by rfl, ?_⟩) hS ?_
                    rotate_left
                    · (intro wx hSx; (try dsimp only at hSx); go_simp; (try with_reducible rfl))
                    simp only [List.getElem_toArray, List.getElem_cons_succ, List.getElem_cons_zero, Act.put, List.setIfInBounds_toArray, List.set_cons_zero, List.set_cons_succ]
                    refine wpAnyH_ready (rs := [19]) (by kernel_rfl) (by simp) ?_
                    refine AllReadyH.cons rfl (fun K hK => ?_) AllReadyH.nil
                    go_simp
                    go_at_call 48
                    refine (HCN.out _).mono ?_
                    rintro x wz ⟨rfl, hz⟩
                    subst hz
                    refine hK.out _ _ hS (fun hS => ?_)
                    clear hK K
                    refine wpAnyH_take (i := 23) (v := ?_) rfl (by kernel_rfl) (by kernel_rfl) (by kernel_rfl) (fun _ _ _ h => h) (Or.inl ⟨by rfl, ?_⟩) hS ?_
                    rotate_left
                    · (intro wx hSx; (try dsimp only at hSx); go_simp; (try with_reducible rfl))
                    simp only [List.getElem_toArray, List.getElem_cons_succ, List.getElem_cons_zero, Act.put, List.setIfInBounds_toArray, List.set_cons_zero, List.set_cons_succ]
                    refine wpAnyH_take (i := 24) (v := ?_) rfl (by kernel_rfl) (by kernel_rfl) (by kernel_rfl) (fun _ _ _ h => h) (Or.inl ⟨by rfl, ?_⟩) hS ?_
                    rotate_left
                    · (intro wx hSx; (try dsimp only at hSx); go_simp; (try with_reducible rfl))
                    simp only [List.getElem_toArray, List.getElem_cons_succ, List.getElem_cons_zero, Act.put, List.setIfInBounds_toArray, List.set_cons_zero, List.set_cons_succ]
                    refine wpAnyH_take (i := 25) (v := ?_) rfl (by kernel_rfl) (by kernel_rfl) (by kernel_rfl) (fun _ _ _ h => h) (Or.inl ⟨by rfl, ?_⟩) hS ?_
                    rotate_left
                    · (intro wx hSx; (try dsimp only at hSx); go_simp; (try with_reducible rfl))
                    simp only [List.getElem_toArray, List.getElem_cons_succ, List.getElem_cons_zero, Act.put, List.setIfInBounds_toArray, List.set_cons_zero, List.set_cons_succ]
                    refine wpAnyH_done (by kernel_rfl) ?_ _
                    refine NoPanic.normal ?_
                    go_wp2_with fail
                    go_meet
                    exact ⟨by rw [HQx.out], HKE.out _ hbn⟩
                  · have t2 : (cb != m.bits) = true := by rw [bne_iff_ne]; exact d0
                    have hQx : Q1 = true := by rw [HQw.out]; simp [d0]
                    have HQx := Lib.hid hQx
                    clear hQx d0
                    refine wp_region_noPanic ?_
                    refine wp_region_held_drew (S := fun w' => w'.cell? ⟨w.heap.size, 0, none⟩ = some (.int .i64 m.kind) ∧ w'.cell? ⟨w.heap.size, 1, none⟩ = some (.int .i64 m.sess) ∧ w'.cell? ⟨w.heap.size, 2, none⟩ = some (.int .i64 m.num) ∧ w'.cell? ⟨w.heap.size, 3, none⟩ = some (.int .i64 m.job) ∧ w'.cell? ⟨w.heap.size, 4, none⟩ = some (.int .i64 m.badge) ∧ w'.cell? ⟨w.heap.size, 5, none⟩ = some (.int .i64 m.idx) ∧ w'.cell? ⟨w.heap.size, 6, none⟩ = some (.int .i64 m.cnt) ∧ w'.cell? ⟨w.heap.size, 7, none⟩ = some (.int .i64 m.code) ∧ w'.cell? ⟨w.heap.size, 8, none⟩ = some (.int .u64 m.bits) ∧ w'.cell? ⟨w.heap.size, 9, none⟩ = some (.string m.text) ∧ w'.cell? ⟨w.heap.size, 10, none⟩ = some (.string m.prog)) (by kernel_rfl) ⟨q0, q1, q2, q3, q4, q5, q6, q7, q8, q9, q10⟩ (fun hS => ?_)
                    refine wpAnyH_take (i := 0) (v := ?_) rfl (by kernel_rfl) (by kernel_rfl) (by kernel_rfl) (fun _ _ _ h => h) (Or.inl ⟨by rfl, ?_⟩) hS ?_
                    rotate_left
                    · (intro wx hSx; (try dsimp only at hSx); go_simp; (try with_reducible rfl))
                    simp only [List.getElem_toArray, List.getElem_cons_zero, Act.put, List.setIfInBounds_toArray, List.set_cons_zero, List.set_cons_succ]
                    refine wpAnyH_take (i := 1) (v := ?_) rfl (by kernel_rfl) (by kernel_rfl) (by kernel_rfl) (fun _ _ _ h => h) (Or.inl ⟨by rfl, ?_⟩) hS ?_
                    rotate_left
                    · (intro wx hSx; (try dsimp only at hSx); go_simp; (try with_reducible rfl))
                    simp only [List.getElem_toArray, List.getElem_cons_succ, List.getElem_cons_zero, Act.put, List.setIfInBounds_toArray, List.set_cons_zero, List.set_cons_succ]
                    refine wpAnyH_take (i := 2) (v := ?_) rfl (by kernel_rfl) (by kernel_rfl) (by kernel_rfl) (fun _ _ _ h => h) (Or.inl ⟨by rfl, ?_⟩) hS ?_
                    rotate_left
                    · (intro wx hSx; (try dsimp only at hSx); go_simp; (try with_reducible rfl))
                    simp only [List.getElem_toArray, List.getElem_cons_succ, List.getElem_cons_zero, Act.put, List.setIfInBounds_toArray, List.set_cons_zero, List.set_cons_succ]
                    refine wpAnyH_take (i := 3) (v := ?_) rfl (by kernel_rfl) (by kernel_rfl) (by kernel_rfl) (fun _ _ _ h => h) (Or.inl ⟨by rfl, ?_⟩) hS ?_
                    rotate_left
                    · (intro wx hSx; (try dsimp only at hSx); go_simp; (try with_reducible rfl))
                    simp only [List.getElem_toArray, List.getElem_cons_succ, List.getElem_cons_zero, Act.put, List.setIfInBounds_toArray, List.set_cons_zero, List.set_cons_succ]
                    refine wpAnyH_take (i := 4) (v := ?_) rfl (by kernel_rfl) (by kernel_rfl) (by kernel_rfl) (fun _ _ _ h => h) (Or.inl ⟨by rfl, ?_⟩) hS ?_
                    rotate_left
                    · (intro wx hSx; (try dsimp only at hSx); go_simp; (try with_reducible rfl))
                    simp only [List.getElem_toArray, List.getElem_cons_succ, List.getElem_cons_zero, Act.put, List.setIfInBounds_toArray, List.set_cons_zero, List.set_cons_succ]
                    refine wpAnyH_take (i := 5) (v := ?_) rfl (by kernel_rfl) (by kernel_rfl) (by kernel_rfl) (fun _ _ _ h => h) (Or.inl ⟨by rfl, ?_⟩) hS ?_
                    rotate_left
                    · (intro wx hSx; (try dsimp only at hSx); go_simp; (try with_reducible rfl))
                    simp only [List.getElem_toArray, List.getElem_cons_succ, List.getElem_cons_zero, Act.put, List.setIfInBounds_toArray, List.set_cons_zero, List.set_cons_succ]
                    refine wpAnyH_take (i := 6) (v := ?_) rfl (by kernel_rfl) (by kernel_rfl) (by kernel_rfl) (fun _ _ _ h => h) (Or.inl ⟨by rfl, ?_⟩) hS ?_
                    rotate_left
                    · (intro wx hSx; (try dsimp only at hSx); go_simp; (try with_reducible rfl))
                    simp only [List.getElem_toArray, List.getElem_cons_succ, List.getElem_cons_zero, Act.put, List.setIfInBounds_toArray, List.set_cons_zero, List.set_cons_succ]
                    refine wpAnyH_ready (rs := [7]) (by kernel_rfl) (by simp) ?_
                    refine AllReadyH.cons rfl (fun K hK => ?_) AllReadyH.nil
                    go_simp
                    go_at_call 47
                    refine (HH.out _).mono ?_
                    rintro x wn ⟨rfl, hbn⟩
                    refine hK.out _ _ (HKE.out _ hbn).1.all (fun hS => ?_)
                    clear hK K
                    refine wpAnyH_take (i := 8) (v := ?_) rfl (by kernel_rfl) (by kernel_rfl) (by kernel_rfl) (fun _ _ _ h => h) (Or.inl ⟨by rfl, ?_⟩) hS ?_
                    rotate_left
                    · (intro wx hSx; (try dsimp only at hSx); go_simp; (try with_reducible rfl))
                    simp only [List.getElem_toArray, List.getElem_cons_succ, List.getElem_cons_zero, Act.put, List.setIfInBounds_toArray, List.set_cons_zero, List.set_cons_succ]
                    refine wpAnyH_take (i := 9) (v := ?_) rfl (by kernel_rfl) (by kernel_rfl) (by kernel_rfl) (fun _ _ _ h => h) (Or.inl ⟨by rfl, ?_⟩) hS ?_
                    rotate_left
                    · (intro wx hSx; (try dsimp only at hSx); go_simp; (try with_reducible rfl))
                    simp only [List.getElem_toArray, List.getElem_cons_succ, List.getElem_cons_zero, Act.put, List.setIfInBounds_toArray, List.set_cons_zero, List.set_cons_succ]
                    refine wpAnyH_take (i := 10) (v := ?_) rfl (by kernel_rfl) (by kernel_rfl) (by kernel_rfl) (fun _ _ _ h => h) (Or.inl ⟨by rfl, ?_⟩) hS ?_
                    rotate_left
                    · (intro wx hSx; (try dsimp only at hSx); go_simp; (try with_reducible rfl))
                    simp only [List.getElem_toArray, List.getElem_cons_succ, List.getElem_cons_zero, Act.put, List.setIfInBounds_toArray, List.set_cons_zero, List.set_cons_succ]
                    refine wpAnyH_take (i := 11) (v := ?_) rfl (by kernel_rfl) (by kernel_rfl) (by kernel_rfl) (fun _ _ _ h => h) (Or.inl ⟨by rfl, ?_⟩) hS ?_
                    rotate_left
                    · (intro wx hSx; (try dsimp only at hSx); go_simp; (try with_reducible rfl))
                    simp only [List.getElem_toArray, List.getElem_cons_succ, List.getElem_cons_zero, Act.put, List.setIfInBounds_toArray, List.set_cons_zero, List.set_cons_succ]
                    refine wpAnyH_take (i := 12) (v := ?_) rfl (by kernel_rfl) (by kernel_rfl) (by kernel_rfl) (fun _ _ _ h => h) (Or.inl ⟨by rfl, ?_⟩) hS ?_
                    rotate_left
                    · (intro wx hSx; (try dsimp only at hSx); go_simp; (try with_reducible rfl))
                    simp only [List.getElem_toArray, List.getElem_cons_succ, List.getElem_cons_zero, Act.put, List.setIfInBounds_toArray, List.set_cons_zero, List.set_cons_succ]
                    refine wpAnyH_take (i := 13) (v := ?_) rfl (by kernel_rfl) (by kernel_rfl) (by kernel_rfl) (fun _ _ _ h => h) (Or.inl ⟨by rfl, ?_⟩) hS ?_
                    rotate_left
                    · (intro wx hSx; (try dsimp only at hSx); go_simp; (try with_reducible rfl))
                    simp only [List.getElem_toArray, List.getElem_cons_succ, List.getElem_cons_zero, Act.put, List.setIfInBounds_toArray, List.set_cons_zero, List.set_cons_succ]
                    refine wpAnyH_take (i := 14) (v := ?_) rfl (by kernel_rfl) (by kernel_rfl) (by kernel_rfl) (fun _ _ _ h => h) (Or.inl ⟨by rfl, ?_⟩) hS ?_
                    rotate_left
                    · (intro wx hSx; (try dsimp only at hSx); go_simp; (try with_reducible rfl))
                    simp only [List.getElem_toArray, List.getElem_cons_succ, List.getElem_cons_zero, Act.put, List.setIfInBounds_toArray, List.set_cons_zero, List.set_cons_succ]
                    refine wpAnyH_take (i := 15) (v := ?_) rfl (by kernel_rfl) (by kernel_rfl) (by kernel_rfl) (fun _ _ _ h => h) (Or.inl ⟨by rfl, ?_⟩) hS ?_
                    rotate_left
                    · (intro wx hSx; (try dsimp only at hSx); go_simp; (try with_reducible rfl))
                    simp only [List.getElem_toArray, List.getElem_cons_succ, List.getElem_cons_zero, Act.put, List.setIfInBounds_toArray, List.set_cons_zero, List.set_cons_succ]
                    refine wpAnyH_take (i := 16) (v := ?_) rfl (by kernel_rfl) (by kernel_rfl) (by kernel_rfl) (fun _ _ _ h => h) (Or.inl ⟨by rfl, ?_⟩) hS ?_
                    rotate_left
                    · (intro wx hSx; (try dsimp only at hSx); go_simp; (try with_reducible rfl))
                    simp only [List.getElem_toArray, List.getElem_cons_succ, List.getElem_cons_zero, Act.put, List.setIfInBounds_toArray, List.set_cons_zero, List.set_cons_succ]
                    refine wpAnyH_take (i := 17) (v := ?_) rfl (by kernel_rfl) (by kernel_rfl) (by kernel_rfl) (fun _ _ _ h => h) (Or.inl ⟨by rfl, ?_⟩) hS ?_
                    rotate_left
                    · (intro wx hSx; (try dsimp only at hSx); go_simp; (try with_reducible rfl))
                    simp only [List.getElem_toArray, List.getElem_cons_succ, List.getElem_cons_zero, Act.put, List.setIfInBounds_toArray, List.set_cons_zero, List.set_cons_succ]
                    refine wpAnyH_take (i := 18) (v := ?_) rfl (by kernel_rfl) (by kernel_rfl) (by kernel_rfl) (fun _ _ _ h => h) (Or.inl ⟨by rfl, ?_⟩) hS ?_
                    rotate_left
                    · (intro wx hSx; (try dsimp only at hSx); go_simp; (try with_reducible rfl))
                    simp only [List.getElem_toArray, List.getElem_cons_succ, List.getElem_cons_zero, Act.put, List.setIfInBounds_toArray, List.set_cons_zero, List.set_cons_succ]
                    refine wpAnyH_take (i := 20) (v := ?_) rfl (by kernel_rfl) (by kernel_rfl) (by kernel_rfl) (fun _ _ _ h => h) (Or.inl ⟨by rfl, ?_⟩) hS ?_
                    rotate_left
                    · (intro wx hSx; (try dsimp only at hSx); go_simp; (try with_reducible rfl))
                    simp only [List.getElem_toArray, List.getElem_cons_succ, List.getElem_cons_zero, Act.put, List.setIfInBounds_toArray, List.set_cons_zero, List.set_cons_succ]
                    refine wpAnyH_take (i := 21) (v := ?_) rfl (by kernel_rfl) (by kernel_rfl) (by kernel_rfl) (fun _ _ _ h => h) (Or.inl ⟨by rfl, ?_⟩) hS ?_
                    rotate_left
                    · (intro wx hSx; (try dsimp only at hSx); go_simp; (try with_reducible rfl))
                    simp only [List.getElem_toArray, List.getElem_cons_succ, List.getElem_cons_zero, Act.put, List.setIfInBounds_toArray, List.set_cons_zero, List.set_cons_succ]
                    refine wpAnyH_take (i := 22) (v := ?_) rfl (by kernel_rfl) (by kernel_rfl) (by kernel_rfl) (fun _ _ _ h => h) (Or.inl ⟨by rfl, ?_⟩) hS ?_
                    rotate_left
                    · (intro wx hSx; (try dsimp only at hSx); go_simp; (try with_reducible rfl))
                    simp only [List.getElem_toArray, List.getElem_cons_succ, List.getElem_cons_zero, Act.put, List.setIfInBounds_toArray, List.set_cons_zero, List.set_cons_succ]
                    refine wpAnyH_ready (rs := [19]) (by kernel_rfl) (by simp) ?_
                    refine AllReadyH.cons rfl (fun K hK => ?_) AllReadyH.nil
                    go_simp
                    go_at_call 48
                    refine (HCN.out _).mono ?_
                    rintro x wz ⟨rfl, hz⟩
                    subst hz
                    refine hK.out _ _ hS (fun hS => ?_)
                    clear hK K
                    refine wpAnyH_take (i := 23) (v := ?_) rfl (by kernel_rfl) (by kernel_rfl) (by kernel_rfl) (fun _ _ _ h => h) (Or.inl ⟨by rfl, ?_⟩) hS ?_
                    rotate_left
                    · (intro wx hSx; (try dsimp only at hSx); go_simp; (try with_reducible rfl))
                    simp only [List.getElem_toArray, List.getElem_cons_succ, List.getElem_cons_zero, Act.put, List.setIfInBounds_toArray, List.set_cons_zero, List.set_cons_succ]
                    refine wpAnyH_take (i := 24) (v := ?_) rfl (by kernel_rfl) (by kernel_rfl) (by kernel_rfl) (fun _ _ _ h => h) (Or.inl ⟨by rfl, ?_⟩) hS ?_
                    rotate_left
                    · (intro wx hSx; (try dsimp only at hSx); go_simp; (try with_reducible rfl))
                    simp only [List.getElem_toArray, List.getElem_cons_succ, List.getElem_cons_zero, Act.put, List.setIfInBounds_toArray, List.set_cons_zero, List.set_cons_succ]
                    refine wpAnyH_take (i := 25) (v := ?_) rfl (by kernel_rfl) (by kernel_rfl) (by kernel_rfl) (fun _ _ _ h => h) (Or.inl ⟨by rfl, ?_⟩) hS ?_
                    rotate_left
                    · (intro wx hSx; (try dsimp only at hSx); go_simp; (try with_reducible rfl))
                    simp only [List.getElem_toArray, List.getElem_cons_succ, List.getElem_cons_zero, Act.put, List.setIfInBounds_toArray, List.set_cons_zero, List.set_cons_succ]
                    refine wpAnyH_done (by kernel_rfl) ?_ _
                    refine NoPanic.normal ?_
                    go_wp2_with fail
                    go_meet
                    exact ⟨by rw [HQx.out], HKE.out _ hbn⟩
                · have t1 : (m.code != 0) = true := by rw [bne_iff_ne]; exact c0
                  have u1 : decide (m.code ≠ 0) = true := by simp [c0]
                  have HQw := Lib.hid (HQv.out.trans (by rw [u1]))
                  clear u1 c0
                  refine wp_region_noPanic ?_
                  refine wp_region_held_drew (S := fun w' => w'.cell? ⟨w.heap.size, 0, none⟩ = some (.int .i64 m.kind) ∧ w'.cell? ⟨w.heap.size, 1, none⟩ = some (.int .i64 m.sess) ∧ w'.cell? ⟨w.heap.size, 2, none⟩ = some (.int .i64 m.num) ∧ w'.cell? ⟨w.heap.size, 3, none⟩ = some (.int .i64 m.job) ∧ w'.cell? ⟨w.heap.size, 4, none⟩ = some (.int .i64 m.badge) ∧ w'.cell? ⟨w.heap.size, 5, none⟩ = some (.int .i64 m.idx) ∧ w'.cell? ⟨w.heap.size, 6, none⟩ = some (.int .i64 m.cnt) ∧ w'.cell? ⟨w.heap.size, 7, none⟩ = some (.int .i64 m.code) ∧ w'.cell? ⟨w.heap.size, 8, none⟩ = some (.int .u64 m.bits) ∧ w'.cell? ⟨w.heap.size, 9, none⟩ = some (.string m.text) ∧ w'.cell? ⟨w.heap.size, 10, none⟩ = some (.string m.prog)) (by kernel_rfl) ⟨q0, q1, q2, q3, q4, q5, q6, q7, q8, q9, q10⟩ (fun hS => ?_)
                  refine wpAnyH_take (i := 0) (v := ?_) rfl (by kernel_rfl) (by kernel_rfl) (by kernel_rfl) (fun _ _ _ h => h) (Or.inl ⟨by rfl, ?_⟩) hS ?_
                  rotate_left
                  · (intro wx hSx; (try dsimp only at hSx); go_simp; (try with_reducible rfl))
                  simp only [List.getElem_toArray, List.getElem_cons_zero, Act.put, List.setIfInBounds_toArray, List.set_cons_zero, List.set_cons_succ]
                  refine wpAnyH_take (i := 1) (v := ?_) rfl (by kernel_rfl) (by kernel_rfl) (by kernel_rfl) (fun _ _ _ h => h) (Or.inl ⟨by rfl, ?_⟩) hS ?_
                  rotate_left
                  · (intro wx hSx; (try dsimp only at hSx); go_simp; (try with_reducible rfl))
                  simp only [List.getElem_toArray, List.getElem_cons_succ, List.getElem_cons_zero, Act.put, List.setIfInBounds_toArray, List.set_cons_zero, List.set_cons_succ]
                  refine wpAnyH_take (i := 2) (v := ?_) rfl (by kernel_rfl) (by kernel_rfl) (by kernel_rfl) (fun _ _ _ h => h) (Or.inl ⟨by rfl, ?_⟩) hS ?_
                  rotate_left
                  · (intro wx hSx; (try dsimp only at hSx); go_simp; (try with_reducible rfl))
                  simp only [List.getElem_toArray, List.getElem_cons_succ, List.getElem_cons_zero, Act.put, List.setIfInBounds_toArray, List.set_cons_zero, List.set_cons_succ]
                  refine wpAnyH_take (i := 3) (v := ?_) rfl (by kernel_rfl) (by kernel_rfl) (by kernel_rfl) (fun _ _ _ h => h) (Or.inl ⟨by rfl, ?_⟩) hS ?_
                  rotate_left
                  · (intro wx hSx; (try dsimp only at hSx); go_simp; (try with_reducible rfl))
                  simp only [List.getElem_toArray, List.getElem_cons_succ, List.getElem_cons_zero, Act.put, List.setIfInBounds_toArray, List.set_cons_zero, List.set_cons_succ]
                  refine wpAnyH_take (i := 4) (v := ?_) rfl (by kernel_rfl) (by kernel_rfl) (by kernel_rfl) (fun _ _ _ h => h) (Or.inl ⟨by rfl, ?_⟩) hS ?_
                  rotate_left
                  · (intro wx hSx; (try dsimp only at hSx); go_simp; (try with_reducible rfl))
                  simp only [List.getElem_toArray, List.getElem_cons_succ, List.getElem_cons_zero, Act.put, List.setIfInBounds_toArray, List.set_cons_zero, List.set_cons_succ]
                  refine wpAnyH_take (i := 5) (v := ?_) rfl (by kernel_rfl) (by kernel_rfl) (by kernel_rfl) (fun _ _ _ h => h) (Or.inl ⟨by rfl, ?_⟩) hS ?_
                  rotate_left
                  · (intro wx hSx; (try dsimp only at hSx); go_simp; (try with_reducible rfl))
                  simp only [List.getElem_toArray, List.getElem_cons_succ, List.getElem_cons_zero, Act.put, List.setIfInBounds_toArray, List.set_cons_zero, List.set_cons_succ]
                  refine wpAnyH_take (i := 6) (v := ?_) rfl (by kernel_rfl) (by kernel_rfl) (by kernel_rfl) (fun _ _ _ h => h) (Or.inl ⟨by rfl, ?_⟩) hS ?_
                  rotate_left
                  · (intro wx hSx; (try dsimp only at hSx); go_simp; (try with_reducible rfl))
                  simp only [List.getElem_toArray, List.getElem_cons_succ, List.getElem_cons_zero, Act.put, List.setIfInBounds_toArray, List.set_cons_zero, List.set_cons_succ]
                  refine wpAnyH_ready (rs := [7]) (by kernel_rfl) (by simp) ?_
                  refine AllReadyH.cons rfl (fun K hK => ?_) AllReadyH.nil
                  go_simp
                  go_at_call 47
                  refine (HH.out _).mono ?_
                  rintro x wn ⟨rfl, hbn⟩
                  refine hK.out _ _ (HKE.out _ hbn).1.all (fun hS => ?_)
                  clear hK K
                  refine wpAnyH_take (i := 8) (v := ?_) rfl (by kernel_rfl) (by kernel_rfl) (by kernel_rfl) (fun _ _ _ h => h) (Or.inl ⟨by rfl, ?_⟩) hS ?_
                  rotate_left
                  · (intro wx hSx; (try dsimp only at hSx); go_simp; (try with_reducible rfl))
                  simp only [List.getElem_toArray, List.getElem_cons_succ, List.getElem_cons_zero, Act.put, List.setIfInBounds_toArray, List.set_cons_zero, List.set_cons_succ]
                  refine wpAnyH_take (i := 9) (v := ?_) rfl (by kernel_rfl) (by kernel_rfl) (by kernel_rfl) (fun _ _ _ h => h) (Or.inl ⟨by rfl, ?_⟩) hS ?_
                  rotate_left
                  · (intro wx hSx; (try dsimp only at hSx); go_simp; (try with_reducible rfl))
                  simp only [List.getElem_toArray, List.getElem_cons_succ, List.getElem_cons_zero, Act.put, List.setIfInBounds_toArray, List.set_cons_zero, List.set_cons_succ]
                  refine wpAnyH_take (i := 10) (v := ?_) rfl (by kernel_rfl) (by kernel_rfl) (by kernel_rfl) (fun _ _ _ h => h) (Or.inl ⟨by rfl, ?_⟩) hS ?_
                  rotate_left
                  · (intro wx hSx; (try dsimp only at hSx); go_simp; (try with_reducible rfl))
                  simp only [List.getElem_toArray, List.getElem_cons_succ, List.getElem_cons_zero, Act.put, List.setIfInBounds_toArray, List.set_cons_zero, List.set_cons_succ]
                  refine wpAnyH_take (i := 11) (v := ?_) rfl (by kernel_rfl) (by kernel_rfl) (by kernel_rfl) (fun _ _ _ h => h) (Or.inl ⟨by rfl, ?_⟩) hS ?_
                  rotate_left
                  · (intro wx hSx; (try dsimp only at hSx); go_simp; (try with_reducible rfl))
                  simp only [List.getElem_toArray, List.getElem_cons_succ, List.getElem_cons_zero, Act.put, List.setIfInBounds_toArray, List.set_cons_zero, List.set_cons_succ]
                  refine wpAnyH_take (i := 12) (v := ?_) rfl (by kernel_rfl) (by kernel_rfl) (by kernel_rfl) (fun _ _ _ h => h) (Or.inl ⟨by rfl, ?_⟩) hS ?_
                  rotate_left
                  · (intro wx hSx; (try dsimp only at hSx); go_simp; (try with_reducible rfl))
                  simp only [List.getElem_toArray, List.getElem_cons_succ, List.getElem_cons_zero, Act.put, List.setIfInBounds_toArray, List.set_cons_zero, List.set_cons_succ]
                  refine wpAnyH_take (i := 13) (v := ?_) rfl (by kernel_rfl) (by kernel_rfl) (by kernel_rfl) (fun _ _ _ h => h) (Or.inl ⟨by rfl, ?_⟩) hS ?_
                  rotate_left
                  · (intro wx hSx; (try dsimp only at hSx); go_simp; (try with_reducible rfl))
                  simp only [List.getElem_toArray, List.getElem_cons_succ, List.getElem_cons_zero, Act.put, List.setIfInBounds_toArray, List.set_cons_zero, List.set_cons_succ]
                  refine wpAnyH_take (i := 14) (v := ?_) rfl (by kernel_rfl) (by kernel_rfl) (by kernel_rfl) (fun _ _ _ h => h) (Or.inl ⟨by rfl, ?_⟩) hS ?_
                  rotate_left
                  · (intro wx hSx; (try dsimp only at hSx); go_simp; (try with_reducible rfl))
                  simp only [List.getElem_toArray, List.getElem_cons_succ, List.getElem_cons_zero, Act.put, List.setIfInBounds_toArray, List.set_cons_zero, List.set_cons_succ]
                  refine wpAnyH_take (i := 15) (v := ?_) rfl (by kernel_rfl) (by kernel_rfl) (by kernel_rfl) (fun _ _ _ h => h) (Or.inl ⟨by rfl, ?_⟩) hS ?_
                  rotate_left
                  · (intro wx hSx; (try dsimp only at hSx); go_simp; (try with_reducible rfl))
                  simp only [List.getElem_toArray, List.getElem_cons_succ, List.getElem_cons_zero, Act.put, List.setIfInBounds_toArray, List.set_cons_zero, List.set_cons_succ]
                  refine wpAnyH_take (i := 16) (v := undef) rfl (by kernel_rfl) (by kernel_rfl) (by kernel_rfl) (fun _ _ _ h => h) (Or.inr ⟨by rfl, rfl⟩) hS ?_
                  simp only [List.getElem_toArray, List.getElem_cons_succ, List.getElem_cons_zero, Act.put, List.setIfInBounds_toArray, List.set_cons_zero, List.set_cons_succ]
                  refine wpAnyH_take (i := 17) (v := undef) rfl (by kernel_rfl) (by kernel_rfl) (by kernel_rfl) (fun _ _ _ h => h) (Or.inr ⟨by rfl, rfl⟩) hS ?_
                  simp only [List.getElem_toArray, List.getElem_cons_succ, List.getElem_cons_zero, Act.put, List.setIfInBounds_toArray, List.set_cons_zero, List.set_cons_succ]
                  refine wpAnyH_take (i := 18) (v := undef) rfl (by kernel_rfl) (by kernel_rfl) (by kernel_rfl) (fun _ _ _ h => h) (Or.inr ⟨by rfl, rfl⟩) hS ?_
                  simp only [List.getElem_toArray, List.getElem_cons_succ, List.getElem_cons_zero, Act.put, List.setIfInBounds_toArray, List.set_cons_zero, List.set_cons_succ]
                  refine wpAnyH_take (i := 19) (v := undef) rfl (by kernel_rfl) (by kernel_rfl) (by kernel_rfl) (fun _ _ _ h => h) (Or.inr ⟨by rfl, rfl⟩) hS ?_
                  simp only [List.getElem_toArray, List.getElem_cons_succ, List.getElem_cons_zero, Act.put, List.setIfInBounds_toArray, List.set_cons_zero, List.set_cons_succ]
                  refine wpAnyH_take (i := 20) (v := undef) rfl (by kernel_rfl) (by kernel_rfl) (by kernel_rfl) (fun _ _ _ h => h) (Or.inr ⟨by rfl, rfl⟩) hS ?_
                  simp only [List.getElem_toArray, List.getElem_cons_succ, List.getElem_cons_zero, Act.put, List.setIfInBounds_toArray, List.set_cons_zero, List.set_cons_succ]
                  refine wpAnyH_take (i := 21) (v := undef) rfl (by kernel_rfl) (by kernel_rfl) (by kernel_rfl) (fun _ _ _ h => h) (Or.inr ⟨by rfl, rfl⟩) hS ?_
                  simp only [List.getElem_toArray, List.getElem_cons_succ, List.getElem_cons_zero, Act.put, List.setIfInBounds_toArray, List.set_cons_zero, List.set_cons_succ]
                  refine wpAnyH_take (i := 22) (v := undef) rfl (by kernel_rfl) (by kernel_rfl) (by kernel_rfl) (fun _ _ _ h => h) (Or.inr ⟨by rfl, rfl⟩) hS ?_
                  simp only [List.getElem_toArray, List.getElem_cons_succ, List.getElem_cons_zero, Act.put, List.setIfInBounds_toArray, List.set_cons_zero, List.set_cons_succ]
                  refine wpAnyH_take (i := 23) (v := undef) rfl (by kernel_rfl) (by kernel_rfl) (by kernel_rfl) (fun _ _ _ h => h) (Or.inr ⟨by rfl, rfl⟩) hS ?_
                  simp only [List.getElem_toArray, List.getElem_cons_succ, List.getElem_cons_zero, Act.put, List.setIfInBounds_toArray, List.set_cons_zero, List.set_cons_succ]
                  refine wpAnyH_take (i := 24) (v := ?_) rfl (by kernel_rfl) (by kernel_rfl) (by kernel_rfl) (fun _ _ _ h => h) (Or.inl ⟨by rfl, ?_⟩) hS ?_
                  rotate_left
                  · (intro wx hSx; (try dsimp only at hSx); go_simp; (try with_reducible rfl))
                  simp only [List.getElem_toArray, List.getElem_cons_succ, List.getElem_cons_zero, Act.put, List.setIfInBounds_toArray, List.set_cons_zero, List.set_cons_succ]
                  refine wpAnyH_take (i := 25) (v := ?_) rfl (by kernel_rfl) (by kernel_rfl) (by kernel_rfl) (fun _ _ _ h => h) (Or.inl ⟨by rfl, ?_⟩) hS ?_
                  rotate_left
                  · (intro wx hSx; (try dsimp only at hSx); go_simp; (try with_reducible rfl))
                  simp only [List.getElem_toArray, List.getElem_cons_succ, List.getElem_cons_zero, Act.put, List.setIfInBounds_toArray, List.set_cons_zero, List.set_cons_succ]
                  refine wpAnyH_done (by kernel_rfl) ?_ _
                  refine NoPanic.normal ?_
                  go_wp2_with fail
                  go_meet
                  exact ⟨by rw [HQw.out]; rfl, HKE.out _ hbn⟩
          case rest =>
            obtain ⟨rfl, hmc, hbc⟩ := hcut
            have HKf := Lib.hid (And.intro hmc hbc)
            clear hmc hbc HQ HKE q0 q1 q2 q3 q4 q5 q6 q7 q8 q9 q10
            obtain ⟨q0, q1, q2, q3, q4, q5, q6, q7, q8, q9, q10⟩ := HKf.out.1.all
            by_cases a2 : m.kind = 6
            · have t4 : (m.kind == 6) = true := by rw [beq_iff_eq]; exact a2
              have u4 : decide (m.kind = 6) = true := decide_eq_true a2
              by_cases a3 : m.idx = 0
              · have t5 : (m.idx == 0) = true := by rw [beq_iff_eq]; exact a3
                have u5 : decide (m.idx = 0) = true := decide_eq_true a3
                by_cases a4 : m.text = ⟨#[]⟩
                · have t6 : m.text.toList = [] := by rw [a4]; exact empty_list
                  have t7 : m.text.toList.isEmpty = true := by rw [t6]; rfl
                  have u6 : decide (m.text ≠ ⟨#[]⟩) = false := by simp [a4]
                  have HX := Lib.hid (HQ2.out.trans (show _ = false by rw [u4, u5, u6]; rfl))
                  clear u4 u5 u6 a2 a3 a4 HQ2
                  cases Q1 <;> cases B3 <;> (go_wp2; go_ret; exact ⟨by rw [HC.out, HX.out]; rfl, HKf.out.2⟩)
                · have t6 : ¬ m.text.toList = [] := fun e => a4 (bytes_inj (e.trans empty_list.symm))
                  have t7 : m.text.toList.isEmpty = false := by simpa using t6
                  have u6 : decide (m.text ≠ ⟨#[]⟩) = true := by simp [a4]
                  have HX := Lib.hid (HQ2.out.trans (show _ = true by rw [u4, u5, u6]; rfl))
                  clear u4 u5 u6 a2 a3 a4 HQ2
                  cases Q1 <;> cases B3 <;> (go_wp2; go_ret; exact ⟨by rw [HC.out, HX.out]; rfl, HKf.out.2⟩)
              · have t5 : (m.idx == 0) = false := by rw [beq_eq_false_iff_ne]; exact a3
                have u5 : decide (m.idx = 0) = false := decide_eq_false a3
                have HX := Lib.hid (HQ2.out.trans (show _ = false by rw [u4, u5]; rfl))
                clear u4 u5 a2 a3 HQ2
                cases Q1 <;> cases B3 <;> (go_wp2; go_ret; exact ⟨by rw [HC.out, HX.out]; rfl, HKf.out.2⟩)
            · have t4 : (m.kind == 6) = false := by rw [beq_eq_false_iff_ne]; exact a2
              have u4 : decide (m.kind = 6) = false := decide_eq_false a2
              have HX := Lib.hid (HQ2.out.trans (show _ = false by rw [u4]; rfl))
              clear u4 a2 HQ2
              cases Q1 <;> cases B3 <;> (go_wp2; go_ret; exact ⟨by rw [HC.out, HX.out]; rfl, HKf.out.2⟩)
end Go.Proofs.YtpnfdmglhonkmaaGreat
