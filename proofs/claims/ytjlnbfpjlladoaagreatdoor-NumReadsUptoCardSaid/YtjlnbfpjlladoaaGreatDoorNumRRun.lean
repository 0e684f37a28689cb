/- The document's run (contract): the digits that a text begins with, and their number. -/
import Derived.Test.YtjlnbfpjlladoaaGreatDoorJd
import Derived.Test.YtjlnbfpjlladoaaGreatDoorNumParse2
import Derived.BigQuiet
import Derived.Deep.QuietTactic
set_option maxRecDepth 100000
namespace Go.Proofs.YtjlnbfpjlladoaaGreatDoor
open Go.RowKit Ieee

theorem str_index {l : List UInt8} {j : Nat} (h : j < l.length) (w : World) : (Instr.index 9 (.string (strOf l)) (.int .i64 ((j : Nat) : Int))).run Tryz.prog w = .ok (.int .u8 (((l[j]'h).toNat : Nat) : Int)) w := by
  have hsz : (strOf l).size = l.length := by rw [ba_size]
  rw [run_index_string w 9 (strOf l) .i64 (j : Int) Tryz.underlying9, dif_pos ⟨by omega, by rw [hsz]; omega⟩]
  congr 3

theorem take_more {l : List UInt8} {j : Nat} (h : j < l.length) (ha : (l.take j).all isDig = true) (hd : isDig (l[j]'h) = true) : (l.take (j + 1)).all isDig = true ∧ sat (l.take (j + 1)) = satStep (sat (l.take j)) (l[j]'h) := by
  rw [List.take_succ_eq_append_getElem h, sat_snoc, List.all_append, ha]
  refine ⟨?_, rfl⟩
  simp [hd]

set_option maxHeartbeats 4000000 in
set_option maxRecDepth 100000 in
theorem run_any {l : List UInt8} (hs : l.length < 1073741824) (w : World) :
    Calls Tryz.prog 66 #[.string (strOf l)] w fun e w' => e = .returned (.tuple #[.int .i64 ((lead l : Nat) : Int), .int .u64 ((sat (l.take (lead l)) : Nat) : Int), .bool (canonB (l.take (lead l)))]) ∧ Below w.heap.size w w' := by
  have hG := Lib.hid (Below.refl w.heap.size w)
  have hix := fun j (h : j < l.length) w => str_index h w
  obtain ⟨S, hS⟩ : ∃ S, S = strOf l := ⟨_, rfl⟩
  have hsz : S.size = l.length := by rw [hS, ba_size]
  rw [← hS] at hix ⊢
  have HIX := Lib.hid hix
  clear hS hix
  go_enter Tryz.func66, Tryz.ntmps66
  go_wp2
  go_loopw [5, 6] (fun v5 v6 wr => ∃ j : Nat, v5 = .int .i64 ((j : Nat) : Int) ∧ v6 = .int .u64 ((sat (l.take j) : Nat) : Int) ∧ j ≤ l.length ∧ Hid ((l.take j).all isDig = true) ∧ Hid (Below w.heap.size w wr)) (fun v _ _ => l.length - (intOf v).toNat)
  case atStart => exact ⟨0, rfl, rfl, Nat.zero_le _, rfl, hG⟩
  case round =>
    obtain ⟨j, rfl, rfl, hj, HA, HB⟩ := hrel
    have hx0 := sat_le (l.take j)
    by_cases c : j < l.length
    · have c0 : ((j : Nat) : Int) < ((S.size : Nat) : Int) := by omega
      have hi := fun w => HIX.out j c w
      have hw1 : IntKind.i64.wrap (((j : Nat) : Int) + 1) = ((j : Nat) : Int) + 1 := by
        rw [IntKind.wrap_i64]
        omega
      by_cases hd : isDig (l[j]'c) = true
      · obtain ⟨m1, m2⟩ := take_more c HA.out hd
        have M1 := Lib.hid m1
        have M2 := Lib.hid m2
        have hr := dig_range hd
        obtain ⟨cn, hcn⟩ : ∃ z : Nat, z = (l[j]'c).toNat := ⟨_, rfl⟩
        have hst : satStep (sat (l.take j)) (l[j]'c) = if sat (l.take j) < 288230376151711744 then 10 * sat (l.take j) + (cn - 48) else 4611686018427387904 := by
          rw [hcn]
          rfl
        rw [hst] at m2
        have M3 := Lib.hid m2
        rw [← hcn] at hr hi
        obtain ⟨x, hx⟩ : ∃ x : Nat, x = sat (l.take j) := ⟨_, rfl⟩
        rw [← hx] at M3 hx0 ⊢
        clear m1 m2 M2 hst hd hcn hx HIX
        have e1 : (48 : Int) ≤ ((cn : Nat) : Int) := by omega
        have e2 : ¬ ((cn : Nat) : Int) < 48 := by omega
        have e3 : ((cn : Nat) : Int) ≤ 57 := by omega
        have e4 : ¬ (57 : Int) < ((cn : Nat) : Int) := by omega
        by_cases k : x < 288230376151711744
        · have k1 : ((x : Nat) : Int) < 288230376151711744 := by omega
          have M4 := M3.out
          rw [if_pos k] at M4
          have M5 := Lib.hid M4
          have w1 : IntKind.u64.wrap (10 * ((x : Nat) : Int)) = 10 * ((x : Nat) : Int) := by
            rw [IntKind.wrap_u64]
            omega
          have w2 : IntKind.u8.wrap (((cn : Nat) : Int) - 48) = ((cn : Nat) : Int) - 48 := by
            rw [IntKind.wrap_u8]
            omega
          have w3 : IntKind.u64.wrap (((cn : Nat) : Int) - 48) = ((cn : Nat) : Int) - 48 := by
            rw [IntKind.wrap_u64]
            omega
          have w4 : IntKind.u64.wrap (10 * ((x : Nat) : Int) + (((cn : Nat) : Int) - 48)) = 10 * ((x : Nat) : Int) + (((cn : Nat) : Int) - 48) := by
            rw [IntKind.wrap_u64]
            omega
          clear M3 M4 k
          go_wp2
          go_roundw
          case rel => exact ⟨j + 1, by first | rfl | simp, by rw [M5.out]; congr 1; omega, by omega, M1, HB⟩
          case measure => simp [intOf]; omega
        · have k1 : ¬ ((x : Nat) : Int) < 288230376151711744 := by omega
          have M4 := M3.out
          rw [if_neg k] at M4
          have M5 := Lib.hid M4
          clear M3 M4 k
          go_wp2
          go_roundw
          case rel => exact ⟨j + 1, by first | rfl | simp, by rw [M5.out]; rfl, by omega, M1, HB⟩
          case measure => simp [intOf]; omega
      · rw [Bool.not_eq_true] at hd
        have hlead : lead l = j := lead_is l j hj HA.out fun _ => hd
        obtain ⟨cn, hcn⟩ : ∃ z : Nat, z = (l[j]'c).toNat := ⟨_, rfl⟩
        have hc : ((cn : Nat) : Int) < 48 ∨ (¬ ((cn : Nat) : Int) < 48 ∧ (57 : Int) < ((cn : Nat) : Int)) := by
          unfold isDig at hd
          rw [← hcn] at hd
          simp only [Bool.and_eq_false_iff, decide_eq_false_iff_not] at hd
          omega
        rw [← hcn] at hi
        obtain ⟨ci, hci⟩ : ∃ z : Int, z = ((cn : Nat) : Int) := ⟨_, rfl⟩
        rw [← hci] at hi hc
        clear hd hcn hci hw1
        have HL : Hid (lead l = j) := hlead
        have hcb := canon_take hj HA.out
        have hf : (Ending.returned (.tuple #[.int .i64 ((lead l : Nat) : Int), .int .u64 ((sat (l.take (lead l)) : Nat) : Int), .bool (canonB (l.take (lead l)))]) : Ending) = .returned (.tuple #[.int .i64 ((j : Nat) : Int), .int .u64 ((sat (l.take j) : Nat) : Int), .bool (canonB (l.take j))]) := by
          rw [HL.out]
        rw [hcb] at hf
        obtain ⟨x, hx⟩ : ∃ x : Nat, x = sat (l.take j) := ⟨_, rfl⟩
        rw [← hx] at hf hx0 ⊢
        rcases (show j = 0 ∨ j = 1 ∨ 1 < j by omega) with j0 | j0 | j0
        · subst j0
          have HF := Lib.hid hf
          rw [show (((0 : Nat)) : Int) = 0 from rfl] at *
          clear hf hcb hlead HL HA hx hx0 HIX
          rcases hc with e1 | ⟨e1, e2⟩
          · go_upto_region 8 with fail
            go_quiet (fail)
            go_wp2
            go_ret3
            exact ⟨by rw [HF.out]; rfl, below_drewN HB.out _⟩
          · go_upto_region 8 with fail
            go_quiet (fail)
            go_wp2
            go_ret3
            exact ⟨by rw [HF.out]; rfl, below_drewN HB.out _⟩
        · subst j0
          have HF := Lib.hid hf
          rw [show (((1 : Nat)) : Int) = 1 from rfl] at *
          clear hf hcb hlead HL HA hx hx0 HIX
          rcases hc with e1 | ⟨e1, e2⟩
          · go_upto_region 8 with fail
            go_quiet (fail)
            go_wp2
            go_ret3
            exact ⟨by rw [HF.out]; rfl, below_drewN HB.out _⟩
          · go_upto_region 8 with fail
            go_quiet (fail)
            go_wp2
            go_ret3
            exact ⟨by rw [HF.out]; rfl, below_drewN HB.out _⟩
        · have j1 : (((j : Nat) : Int) == 1) = false := beq_eq_false_iff_ne.2 (by omega)
          have j2 : (1 : Int) < ((j : Nat) : Int) := by omega
          have hl0 : 0 < l.length := by omega
          have h0 := fun w => HIX.out 0 hl0 w
          have hg0 : (l.getD 0 0) = l[0]'hl0 := by simp [List.getD, List.getElem?_eq_getElem hl0]
          rw [hg0, decide_eq_false (show ¬ j = 1 by omega), decide_eq_true j0, Bool.false_or, Bool.true_and] at hf
          obtain ⟨c0n, hc0⟩ : ∃ z : Nat, z = (l[0]'hl0).toNat := ⟨_, rfl⟩
          rw [← hc0] at h0 hf
          rw [show ((0 : Nat) : Int) = 0 from rfl] at h0
          by_cases q : c0n = 48
          · have q1 : (((c0n : Nat) : Int) == 48) = true := beq_iff_eq.2 (by omega)
            rw [decide_eq_false (fun h => h q)] at hf
            have HF := Lib.hid hf
            have q2 : ((c0n : Nat) : Int) = 48 := by omega
            rw [q2] at h0
            clear hf hcb hlead HL HA hx hx0 HIX hg0 hc0 q q1 q2
            rcases hc with e1 | ⟨e1, e2⟩
            · go_upto_region 8 with fail
              go_quiet (fail)
              go_wp2
              go_ret3
              exact ⟨by rw [HF.out]; rfl, below_drewN HB.out _⟩
            · go_upto_region 8 with fail
              go_quiet (fail)
              go_wp2
              go_ret3
              exact ⟨by rw [HF.out]; rfl, below_drewN HB.out _⟩
          
          · have q1 : (((c0n : Nat) : Int) != 48) = true := bne_iff_ne.2 (by omega)
            rw [decide_eq_true q] at hf
            have HF := Lib.hid hf
            obtain ⟨c0i, hc0i⟩ : ∃ z : Int, z = ((c0n : Nat) : Int) := ⟨_, rfl⟩
            rw [← hc0i] at h0 q1
            clear hf hcb hlead HL HA hx hx0 HIX hg0 hc0 q hc0i
            rcases hc with e1 | ⟨e1, e2⟩
            · go_upto_region 8 with fail
              go_quiet (fail)
              go_wp2
              go_ret3
              exact ⟨by rw [HF.out]; rfl, below_drewN HB.out _⟩
            · go_upto_region 8 with fail
              go_quiet (fail)
              go_wp2
              go_ret3
              exact ⟨by rw [HF.out]; rfl, below_drewN HB.out _⟩
    · have c0 : ¬ ((j : Nat) : Int) < ((S.size : Nat) : Int) := by omega
      have hlead : lead l = j := lead_is l j hj HA.out fun h => absurd h c
      have HL : Hid (lead l = j) := hlead
      have hcb := canon_take hj HA.out
      have hf : (Ending.returned (.tuple #[.int .i64 ((lead l : Nat) : Int), .int .u64 ((sat (l.take (lead l)) : Nat) : Int), .bool (canonB (l.take (lead l)))]) : Ending) = .returned (.tuple #[.int .i64 ((j : Nat) : Int), .int .u64 ((sat (l.take j) : Nat) : Int), .bool (canonB (l.take j))]) := by
        rw [HL.out]
      rw [hcb] at hf
      obtain ⟨x, hx⟩ : ∃ x : Nat, x = sat (l.take j) := ⟨_, rfl⟩
      rw [← hx] at hf hx0 ⊢
      rcases (show j = 0 ∨ j = 1 ∨ 1 < j by omega) with j0 | j0 | j0
      · subst j0
        have HF := Lib.hid hf
        rw [show (((0 : Nat)) : Int) = 0 from rfl] at *
        clear hf hcb hlead HL HA hx hx0 HIX
        go_upto_region 8 with fail
        go_quiet (fail)
        go_wp2
        go_ret3
        exact ⟨by rw [HF.out]; rfl, below_drewN HB.out _⟩
      · subst j0
        have HF := Lib.hid hf
        rw [show (((1 : Nat)) : Int) = 1 from rfl] at *
        clear hf hcb hlead HL HA hx hx0 HIX
        go_upto_region 8 with fail
        go_quiet (fail)
        go_wp2
        go_ret3
        exact ⟨by rw [HF.out]; rfl, below_drewN HB.out _⟩
      · have j1 : (((j : Nat) : Int) == 1) = false := beq_eq_false_iff_ne.2 (by omega)
        have j2 : (1 : Int) < ((j : Nat) : Int) := by omega
        have hl0 : 0 < l.length := by omega
        have h0 := fun w => HIX.out 0 hl0 w
        have hg0 : (l.getD 0 0) = l[0]'hl0 := by simp [List.getD, List.getElem?_eq_getElem hl0]
        rw [hg0, decide_eq_false (show ¬ j = 1 by omega), decide_eq_true j0, Bool.false_or, Bool.true_and] at hf
        obtain ⟨c0n, hc0⟩ : ∃ z : Nat, z = (l[0]'hl0).toNat := ⟨_, rfl⟩
        rw [← hc0] at h0 hf
        rw [show ((0 : Nat) : Int) = 0 from rfl] at h0
        by_cases q : c0n = 48
        · have q1 : (((c0n : Nat) : Int) == 48) = true := beq_iff_eq.2 (by omega)
          rw [decide_eq_false (fun h => h q)] at hf
          have HF := Lib.hid hf
          have q2 : ((c0n : Nat) : Int) = 48 := by omega
          rw [q2] at h0
          clear hf hcb hlead HL HA hx hx0 HIX hg0 hc0 q q1 q2
          go_upto_region 8 with fail
          go_quiet (fail)
          go_wp2
          go_ret3
          exact ⟨by rw [HF.out]; rfl, below_drewN HB.out _⟩
        
        · have q1 : (((c0n : Nat) : Int) != 48) = true := bne_iff_ne.2 (by omega)
          rw [decide_eq_true q] at hf
          have HF := Lib.hid hf
          obtain ⟨c0i, hc0i⟩ : ∃ z : Int, z = ((c0n : Nat) : Int) := ⟨_, rfl⟩
          rw [← hc0i] at h0 q1
          clear hf hcb hlead HL HA hx hx0 HIX hg0 hc0 q hc0i
          go_upto_region 8 with fail
          go_quiet (fail)
          go_wp2
          go_ret3
          exact ⟨by rw [HF.out]; rfl, below_drewN HB.out _⟩
end Go.Proofs.YtjlnbfpjlladoaaGreatDoor
