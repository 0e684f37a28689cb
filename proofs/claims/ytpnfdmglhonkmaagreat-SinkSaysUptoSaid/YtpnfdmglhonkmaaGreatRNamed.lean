/- The reference of layer 7: Named, has, most, right. -/
import Derived.Test.YtpnfdmglhonkmaaGreatMb
import Derived.Test.YtpnfdmglhonkmaaGreatRf
import Derived.Test.YtpnfdmglhonkmaaGreatNamedAll
import Derived.Test.YtpnfdmglhonkmaaGreatFieldsAll
import Derived.Deep.Cut
import Derived.Deep.DeepCutAuto
import Derived.Deep.RegionWith
set_option maxRecDepth 100000
namespace Go.Proofs.YtpnfdmglhonkmaaGreat
open Go.RowKit

/-- the reference's letters of a kind -/
def rword (k : Int) : List UInt8 := if k < 0 ∨ 17 ≤ k ∨ k = 0 then [63] else wordOf k.toNat

theorem rword_in {k : Int} (h1 : 1 ≤ k) (h16 : k ≤ 16) : rword k = wordOf k.toNat := by unfold rword; rw [if_neg (by omega)]
theorem rword_out {k : Int} (h : k < 1 ∨ 16 < k) : rword k = [63] := by unfold rword; rw [if_pos (by omega)]
theorem rword_len (k : Int) : (rword k).length ≤ 5 := by
  unfold rword
  split
  · decide
  · exact wordOf_len _

theorem rword_cell (k : Nat) (hk : k < 17) : (#[.string ⟨#[63]⟩, .string ⟨#[]⟩, .string ⟨#[115, 110]⟩, .string ⟨#[115, 110, 98]⟩, .string ⟨#[115, 110, 98, 99, 114]⟩, .string ⟨#[98, 105, 116]⟩, .string ⟨#[106, 98, 105, 116]⟩, .string ⟨#[115]⟩, .string ⟨#[115, 110]⟩, .string ⟨#[115, 110, 106, 98, 112]⟩, .string ⟨#[115, 110]⟩, .string ⟨#[115, 110]⟩, .string ⟨#[115, 110]⟩, .string ⟨#[115, 110]⟩, .string ⟨#[98, 99]⟩, .string ⟨#[106, 98, 99]⟩, .string ⟨#[106, 98]⟩] : Array Value)[k]? = some (.string (str (rword (k : Int)))) := by
  rcases k with _ | _ | _ | _ | _ | _ | _ | _ | _ | _ | _ | _ | _ | _ | _ | _ | _ | k
  case succ => omega
  all_goals rfl

set_option maxHeartbeats 1000000 in
theorem rNamed_any (k : Int) (w : World) :
    Calls Tryz.prog 26 #[.int .i64 k] w fun e w' => e = .returned (.string (str (rword k))) ∧ Below w.heap.size w w' := by
  by_cases h0 : k < 0
  · have hr : str (rword k) = ⟨#[63]⟩ := by rw [rword_out (by omega)]; rfl
    rw [hr]
    have t0 : decide (k < 0) = true := decide_eq_true h0
    go_enter Tryz.func26, Tryz.ntmps26
    go_wp2
    go_ret
    exact ⟨rfl, below_new0 _ _⟩
  · have t0 : decide (k < 0) = false := decide_eq_false h0
    by_cases h17 : 17 ≤ k
    · have hr : str (rword k) = ⟨#[63]⟩ := by rw [rword_out (by omega)]; rfl
      rw [hr]
      have t1 : decide (17 ≤ k) = true := decide_eq_true h17
      go_enter Tryz.func26, Tryz.ntmps26
      go_wp2
      go_ret
      exact ⟨rfl, below_new0 _ _⟩
    · have t1 : decide (17 ≤ k) = false := decide_eq_false h17
      obtain ⟨n, rfl⟩ := Int.eq_ofNat_of_zero_le (by omega : 0 ≤ k)
      have hn : n < 17 := by omega
      have hc := rword_cell n hn
      go_enter Tryz.func26, Tryz.ntmps26
      go_upto_region 4 with (fail)
      generalize hW : World.alloc w _ = W
      have hcell : W.cell? ⟨w.heap.size, n, none⟩ = some (.string (str (rword (n : Int)))) := by
        rw [← hW]
        exact (Cells.newAt _ _ _ _ (by simp)).cell hc
      have hb : Below w.heap.size w W := by rw [← hW]; exact below_new0 _ _
      clear hW hc
      go_wp2
      go_ret
      exact ⟨rfl, hb⟩

theorem mem_take_succ {l : List UInt8} {i : Nat} {c : UInt8} (h : i < l.length) : c ∈ l.take (i + 1) ↔ c ∈ l.take i ∨ c = l[i] := by
  rw [List.take_succ_eq_append_getElem h, List.mem_append, List.mem_singleton]

theorem str_index {P : Program} {T : TypeId} (w : World) (hT : P.underlying T = some .string) (L : List UInt8) (j : Nat) (hj : j < L.length) :
    (Instr.index T (.string (str L)) (.int .i64 (j : Int))).run P w = .ok (.int .u8 ((L[j]).toNat : Int)) w :=
  run_index_byte w hT (str L) j (by rw [str_size]; exact hj)

theorem byte_eq (c d : UInt8) : ((c.toNat : Int) == (d.toNat : Int)) = decide (c = d) := by
  by_cases h : c = d
  · subst h
    simp
  · have : ¬ (c.toNat : Int) = (d.toNat : Int) := fun e => h (UInt8.toNat_inj.mp (by omega))
    rw [decide_eq_false h]
    exact beq_eq_false_iff_ne.mpr this

set_option maxHeartbeats 1000000 in
theorem rhas_any (k : Int) (c : UInt8) (w : World) :
    Calls Tryz.prog 47 #[.int .i64 k, .int .u8 (c.toNat : Int)] w fun e w' => e = .returned (.bool (decide (c ∈ rword k))) ∧ Below w.heap.size w w' := by
  have hcall := fun wx => rNamed_any k wx
  have hlen := rword_len k
  generalize rword k = L at hcall hlen ⊢
  have HC := Lib.hid hcall
  clear hcall
  go_enter Tryz.func47, Tryz.ntmps47
  go_wp2_with fail
  refine (HC.out _).mono ?_
  rintro x w1 ⟨rfl, hb1⟩
  have HB := Lib.hid hb1
  clear hb1
  go_wp2_with fail
  go_loopw [6] (fun i wx => ∃ j : Nat, j ≤ L.length ∧ i = .int .i64 (j : Int) ∧ ¬ c ∈ L.take j ∧ wx = w1) (fun i _ => L.length - (intOf i).toNat)
  case atStart => exact ⟨0, Nat.zero_le _, rfl, by simp, rfl⟩
  case round =>
    obtain ⟨j, hj, rfl, hno, rfl⟩ := hrel
    by_cases hlt : j < L.length
    · obtain ⟨d, hd⟩ : ∃ d, d = L[j] := ⟨_, rfl⟩
      have hix : ∀ wx : World, (Instr.index 9 (.string (str L)) (.int .i64 (j : Int))).run Tryz.prog wx = .ok (.int .u8 (d.toNat : Int)) wx := fun wx => by
        rw [hd]
        exact str_index wx Tryz.underlying9 L j hlt
      have hsz : (j : Int) < ((str L).size : Int) := by rw [str_size]; omega
      have hmem := mem_take_succ (c := c) hlt
      rw [← hd] at hmem
      have hin : d ∈ L := by rw [hd]; exact List.getElem_mem hlt
      have HM := Lib.hid hmem
      have HI := Lib.hid hin
      clear hd hmem hin
      have t0 : decide ((j : Int) < ((str L).size : Int)) = true := decide_eq_true hsz
      by_cases hc : c = d
      · subst hc
        go_wp2
        go_ret
        exact ⟨by rw [decide_eq_true HI.out]; rfl, HB.out⟩
      · have t1 : ((d.toNat : Int) == (c.toNat : Int)) = false := by rw [byte_eq]; exact decide_eq_false (fun e => hc e.symm)
        have HN : Hid (¬ c ∈ L.take (j + 1)) := Lib.hid (fun h => (HM.out.mp h).elim hno hc)
        clear hc
        go_wp2
        refine ⟨⟨j + 1, by omega, by go_num, HN.out, trivial⟩, ?_⟩
        simp [intOf]
        omega
    · have hsz : ¬ (j : Int) < ((str L).size : Int) := by rw [str_size]; omega
      have t0 : decide ((j : Int) < ((str L).size : Int)) = false := decide_eq_false hsz
      have HN : Hid (¬ c ∈ L) := Lib.hid (by rw [List.take_of_length_le (by omega)] at hno; exact hno)
      clear hno
      go_wp2
      go_ret
      exact ⟨by rw [decide_eq_false HN.out]; rfl, HB.out⟩

/-- the greatest Index, and Count, of a kind -/
def rmost (k : Int) : Int × Int := if k = 5 then (31, 0) else if k = 6 then (16, 0) else if k = 4 ∨ k = 14 then (0, 32) else (0, 17)

set_option maxHeartbeats 1000000 in
theorem rmost_any (k : Int) (w : World) :
    Calls Tryz.prog 45 #[.int .i64 k] w fun e w' => e = .returned (.tuple #[.int .i64 (rmost k).1, .int .i64 (rmost k).2]) ∧ w = w' := by
  by_cases h5 : k = 5
  · subst h5
    go_enter Tryz.func45, Tryz.ntmps45
    go_wp2
    go_ret2
    exact ⟨rfl, rfl⟩
  · by_cases h6 : k = 6
    · subst h6
      go_enter Tryz.func45, Tryz.ntmps45
      go_wp2
      go_ret2
      exact ⟨rfl, rfl⟩
    · by_cases h4 : k = 4
      · subst h4
        go_enter Tryz.func45, Tryz.ntmps45
        go_wp2
        go_ret2
        exact ⟨rfl, rfl⟩
      · by_cases h14 : k = 14
        · subst h14
          go_enter Tryz.func45, Tryz.ntmps45
          go_wp2
          go_ret2
          exact ⟨rfl, rfl⟩
        · have hm : rmost k = (0, 17) := by unfold rmost; rw [if_neg h5, if_neg h6, if_neg (by omega)]
          rw [hm]
          have t5 : (k == 5) = false := beq_eq_false_iff_ne.mpr h5
          have t6 : (k == 6) = false := beq_eq_false_iff_ne.mpr h6
          have t4 : (k == 4) = false := beq_eq_false_iff_ne.mpr h4
          have t14 : (k == 14) = false := beq_eq_false_iff_ne.mpr h14
          clear h5 h6 h4 h14
          go_enter Tryz.func45, Tryz.ntmps45
          go_wp2
          go_ret2
          exact ⟨rfl, rfl⟩

/-- may the number of a field be? -/
def rright (k : Int) (c : UInt8) (n lo hi : Int) : Bool := if c ∈ rword k then decide (lo ≤ n) && decide (n ≤ hi) else decide (n = 0)

set_option maxHeartbeats 1000000 in
theorem rright_any (m : Mg) (c : UInt8) (n lo hi : Int) (w : World) :
    Calls Tryz.prog 46 #[m.val, .int .u8 (c.toNat : Int), .int .i64 n, .int .i64 lo, .int .i64 hi] w fun e w' => e = .returned (.bool (rright m.kind c n lo hi)) ∧ Below w.heap.size w w' := by
  have hcall := fun wx => rhas_any m.kind c wx
  have hr : rright m.kind c n lo hi = if decide (c ∈ rword m.kind) = true then decide (lo ≤ n) && decide (n ≤ hi) else decide (n = 0) := by
    unfold rright
    by_cases h : c ∈ rword m.kind
    · rw [if_pos h, if_pos (by simpa using h)]
    · rw [if_neg h, if_neg (by simpa using h)]
  generalize decide (c ∈ rword m.kind) = B at hcall hr
  rw [hr]
  clear hr
  have HC := Lib.hid hcall
  clear hcall
  have hm : Ms (w.alloc (.cells m.cells 27)) w.heap.size m := Cells.newAt _ _ _ _ rfl
  have hbw : Below w.heap.size w (w.alloc (.cells m.cells 27)) := below_new0 _ _
  obtain ⟨k0, -⟩ := hm.all
  clear hm
  cases B with
  | true =>
    by_cases h1 : lo ≤ n
    · have t1 : decide (lo ≤ n) = true := decide_eq_true h1
      go_enter Tryz.func46, Tryz.ntmps46
      go_wp2_with fail
      refine (HC.out _).mono ?_
      rintro x w1 ⟨rfl, hb1⟩
      have HB := Lib.hid (hbw.trans (hb1.mono hbw.size))
      clear hb1 hbw
      go_wp2
      go_ret
      exact ⟨by simp, HB.out⟩
    · have t1 : decide (lo ≤ n) = false := decide_eq_false h1
      go_enter Tryz.func46, Tryz.ntmps46
      go_wp2_with fail
      refine (HC.out _).mono ?_
      rintro x w1 ⟨rfl, hb1⟩
      have HB := Lib.hid (hbw.trans (hb1.mono hbw.size))
      clear hb1 hbw
      go_wp2
      go_ret
      exact ⟨by simp, HB.out⟩
  | false =>
    go_enter Tryz.func46, Tryz.ntmps46
    go_wp2_with fail
    refine (HC.out _).mono ?_
    rintro x w1 ⟨rfl, hb1⟩
    have HB := Lib.hid (hbw.trans (hb1.mono hbw.size))
    clear hb1 hbw
    go_wp2
    go_ret
    exact ⟨by by_cases h0 : n = 0 <;> simp [h0], HB.out⟩
end Go.Proofs.YtpnfdmglhonkmaaGreat
