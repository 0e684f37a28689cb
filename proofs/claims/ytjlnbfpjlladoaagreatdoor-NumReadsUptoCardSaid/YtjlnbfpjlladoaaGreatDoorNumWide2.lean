/- The document's package of numbers: lengths, amounts taken apart, products, quotients (contracts). -/
import Derived.Test.YtjlnbfpjlladoaaGreatDoorNumWide
import Derived.Test.YtjlnbfpjlladoaaGreatDoorNumOps
import Derived.Deep.LoopGhost
set_option maxRecDepth 100000
namespace Go.Proofs.YtjlnbfpjlladoaaGreatDoor
open Go.RowKit

theorem lt_of_block {w : World} {g : Nat} {o : Obj} (h : w.heap[g]? = some o) : g < w.heap.size := by
  rcases Nat.lt_or_ge g w.heap.size with h1 | h1
  · exact h1
  · rw [Array.getElem?_eq_none h1] at h
    cases h
def Cells (w : World) (g : Nat) (t : TypeId) (c : Array Value) : Prop := w.heap[g]? = some (.cells c t (0, 0))

section
variable {w w' : World} {g : Nat} {t : TypeId} {c : Array Value}
theorem Cells.lt (h : Cells w g t c) : g < w.heap.size := lt_of_block h
theorem Cells.cell (h : Cells w g t c) {j : Nat} {v : Value} (hj : c[j]? = some v) : w.cell? ⟨g, j, none⟩ = some v := by
  unfold Cells at h
  simp [World.cell?, h, hj]
theorem Cells.fz (h : Cells w g t c) (j : Nat) : w.frozen? ⟨g, j, none⟩ = false := by
  unfold Cells at h
  simp [World.frozen?, h]
theorem Cells.set (h : Cells w g t c) (j : Nat) (v : Value) : Cells (w.setCell ⟨g, j, none⟩ v) g t (c.setIfInBounds j v) := by
  unfold Cells at h ⊢
  simp [World.setCell, Array.getElem?_modify, h]
theorem Cells.far (h : Cells w g t c) {a : Addr} (ha : g ≠ a.block) (u : Value) : Cells (w.setCell a u) g t c := (Below.heap_setCell w a u g ha).trans h
theorem Cells.alloc (h : Cells w g t c) (o : Obj) : Cells (w.alloc o) g t c := (Below.heap_alloc w o g h.lt).trans h
theorem Cells.grown {row : Option Nat} (h : Cells w g t c) (hb : w.grownBy w' row) (hg : some g ≠ row) : Cells w' g t c := (hb.block g h.lt hg).trans h
theorem Cells.below {k : Nat} (h : Cells w g t c) (hb : Below k w w') (hg : g < k) : Cells w' g t c := (hb.block g hg).trans h
theorem Cells.keep (h : Cells w g t c) (hb : Below w.heap.size w w') : Cells w' g t c := (hb.block g h.lt).trans h
theorem Cells.drewN (h : Cells w g t c) (n : Nat) : Cells (w.drewN n) g t c := h
theorem Cells.drew (h : Cells w g t c) : Cells w.drew g t c := h
theorem Cells.new (w : World) (t : TypeId) (c : Array Value) : Cells (w.alloc (.cells c t)) w.heap.size t c := heap_alloc_new w _
theorem Cells.setRow (h : Cells w g t c) (c' : Array Value) : Cells (w.setRow g c') g t c' := by
  unfold Cells at h ⊢
  simp [World.setRow, Array.getElem?_modify, h]
theorem Cells.newAt (w : World) (t : TypeId) (c : Array Value) (n : Nat) (h : n = w.heap.size) : Cells (w.alloc (.cells c t)) n t c := by
  subst h
  exact Cells.new w t c

end
theorem grow_to {a b c : World} (h : Below a.heap.size a b) (k : Below b.heap.size b c) : Below a.heap.size a c :=
  ⟨k.os.trans h.os, k.tape.trans h.tape, k.output.trans h.output, Nat.le_trans h.size k.size, fun i hi => (k.block i (Nat.lt_of_lt_of_le hi h.size)).trans (h.block i hi)⟩
/-- the cells of a whole number of 128 bits -/
def wc (n : Nat) : Array Value := #[.int .u64 (((n : Nat) : Int) / 18446744073709551616), .int .u64 (((n : Nat) : Int) % 18446744073709551616)]
theorem wv_wc (n : Nat) : wv n = .agg (wc n) := rfl
theorem wv_is (n : Nat) : wv n = .agg #[.int .u64 (((n : Nat) : Int) / 18446744073709551616), .int .u64 (((n : Nat) : Int) % 18446744073709551616)] := rfl
abbrev WAt (w : World) (g : Nat) (n : Nat) : Prop := Cells w g 42 (wc n)
theorem WAt.c0 {w : World} {g n : Nat} (h : WAt w g n) : w.cell? ⟨g, 0, none⟩ = some (.int .u64 (((n : Nat) : Int) / 18446744073709551616)) := h.cell (j := 0) rfl
theorem WAt.c1 {w : World} {g n : Nat} (h : WAt w g n) : w.cell? ⟨g, 1, none⟩ = some (.int .u64 (((n : Nat) : Int) % 18446744073709551616)) := h.cell (j := 1) rfl
theorem WAt.store {w : World} {g n m : Nat} (h : WAt w g n) : WAt ((w.setCell ⟨g, 0, none⟩ (.int .u64 (((m : Nat) : Int) / 18446744073709551616))).setCell ⟨g, 1, none⟩ (.int .u64 (((m : Nat) : Int) % 18446744073709551616))) g m := (h.set 0 _).set 1 _
theorem bel_store {w x : World} (h : Below w.heap.size w x) {g : Nat} (hg : w.heap.size ≤ g) (u v : Value) : Below w.heap.size w ((x.setCell ⟨g, 0, none⟩ u).setCell ⟨g, 1, none⟩ v) := (h.setCell hg u).setCell hg v

set_option maxHeartbeats 2000000 in
set_option maxRecDepth 100000 in
theorem wlength_any {n : Nat} (hn : n < 340282366920938463463374607431768211456) (w : World) :
    Calls Tryz.prog 72 #[wv n] w fun e w' => e = .returned (.int .i64 ((bitLen n : Nat) : Int)) ∧ Below w.heap.size w w' := by
  rw [wv_is]
  go_enter Tryz.func72, Tryz.ntmps72
  go_wp2
  go_loopw [3] (fun v wr => ∃ i : Nat, v = .int .i64 ((i : Nat) : Int) ∧ i ≤ 128 ∧ WAt wr w.heap.size (n / 2 ^ i) ∧ Below w.heap.size w wr ∧ Hid (bitLen n = i + bitLen (n / 2 ^ i))) (fun v _ => 129 - (intOf v).toNat)
  case atStart =>
    refine ⟨0, rfl, by omega, ?_, (Below.refl _ _).alloc (Nat.le_refl _) _, ?_⟩
    · rw [Nat.pow_zero, Nat.div_one]
      exact Cells.new w _ _
    · show bitLen n = 0 + bitLen (n / 2 ^ 0)
      rw [Nat.pow_zero, Nat.div_one, Nat.zero_add]
  case round =>
    obtain ⟨i, rfl, hi, hC, hbw, HL⟩ := hrel
    have c0 := hC.c0
    have c1 := hC.c1
    by_cases hx : n / 2 ^ i = 0
    · rw [hx] at c0 c1
      have HN : Hid (bitLen n = i) := by
        have h := HL.out
        rw [hx] at h
        exact h
      go_wp2
      go_ret
      exact ⟨by rw [HN.out]; rfl, hbw⟩
    · have hi2 : i < 128 := by
        rcases Nat.lt_or_ge i 128 with h | h
        · exact h
        · exfalso
          refine hx (Nat.div_eq_of_lt (Nat.lt_of_lt_of_le hn ?_))
          exact Nat.le_trans (by decide) (Nat.pow_le_pow_right (n := 2) (by decide) h)
      have HL2 := Lib.hid (bitLen_step hx HL.out)
      have hx2 : n / 2 ^ (i + 1) = n / 2 ^ i / 2 ^ 1 := by rw [Nat.pow_one, Nat.pow_succ, Nat.div_div_eq_div_mul]
      have hlt : n / 2 ^ i < 340282366920938463463374607431768211456 := Nat.lt_of_le_of_lt (Nat.div_le_self _ _) hn
      have kr := fun w => wright_any (n := n / 2 ^ i) (k := 1) (by omega) hlt w
      rw [← hx2] at kr
      obtain ⟨x, hxx⟩ : ∃ x, x = n / 2 ^ i := ⟨_, rfl⟩
      obtain ⟨y, hyy⟩ : ∃ y, y = n / 2 ^ (i + 1) := ⟨_, rfl⟩
      rw [← hxx] at hC c0 c1 kr hx
      rw [← hyy] at kr
      have kr2 : ∀ w, Calls Tryz.prog 73 #[.agg #[.int .u64 (((x : Nat) : Int) / 18446744073709551616), .int .u64 (((x : Nat) : Int) % 18446744073709551616)], .int .i64 1] w fun e w' => e = .returned (.agg #[.int .u64 (((y : Nat) : Int) / 18446744073709551616), .int .u64 (((y : Nat) : Int) % 18446744073709551616)]) ∧ Below w.heap.size w w' := kr
      have HST : Hid (∀ wx : World, WAt wx w.heap.size x → WAt ((wx.setCell ⟨w.heap.size, 0, none⟩ (.int .u64 (((y : Nat) : Int) / 18446744073709551616))).setCell ⟨w.heap.size, 1, none⟩ (.int .u64 (((y : Nat) : Int) % 18446744073709551616))) w.heap.size y) := fun wx h => h.store
      have hw1 : IntKind.i64.wrap (((i : Nat) : Int) + 1) = ((i : Nat) : Int) + 1 := by
        rw [IntKind.wrap_i64]
        omega
      have hne : (0 < (((x : Nat) : Int) / 18446744073709551616)) ∨ (¬ (0 < (((x : Nat) : Int) / 18446744073709551616)) ∧ 0 < (((x : Nat) : Int) % 18446744073709551616)) := by omega
      have HC := Lib.hid hC
      have HY := Lib.hid hyy
      clear hx hx2 hlt HL hxx kr hC hyy
      have hsz := hbw.size
      rcases hne with h1 | ⟨h1, h2⟩
      · go_wp2_with (go_at_call 73; go_loud (refine (kr2 _).mono ?_; rintro e w2 ⟨rfl, hb⟩; have hC2 := Cells.keep HC.out hb; have s0 := Cells.fz hC2 0; have s1 := Cells.fz hC2 1; have d0 := WAt.c0 hC2; have d1 := WAt.c1 hC2; have HC2 := Lib.hid hC2; clear hC2; have HB := Lib.hid (grow_to hbw hb); clear hb))
        go_roundw
        case rel => exact ⟨i + 1, by first | rfl | simp, by omega, by rw [← HY.out]; exact HST.out _ HC2.out, bel_store HB.out (Nat.le_refl _) _ _, HL2.out⟩
        case measure => simp [intOf]; omega
      · go_wp2_with (go_at_call 73; go_loud (refine (kr2 _).mono ?_; rintro e w2 ⟨rfl, hb⟩; have hC2 := Cells.keep HC.out hb; have s0 := Cells.fz hC2 0; have s1 := Cells.fz hC2 1; have d0 := WAt.c0 hC2; have d1 := WAt.c1 hC2; have HC2 := Lib.hid hC2; clear hC2; have HB := Lib.hid (grow_to hbw hb); clear hb))
        go_roundw
        case rel => exact ⟨i + 1, by first | rfl | simp, by omega, by rw [← HY.out]; exact HST.out _ HC2.out, bel_store HB.out (Nat.le_refl _) _ _, HL2.out⟩
        case measure => simp [intOf]; omega


theorem taken_any {a : Nat} (ha : a < 2 * signB) : Told 42 #[.int .u64 ((a : Nat) : Int)] (.tuple #[.int .u64 ((takenM (a % signB) : Nat) : Int), .int .i64 (takenE (a % signB))]) := by
  intro w
  have f1 : bits .and .u64 (((a : Nat) : Int) / 4503599627370496) 2047 = ((a / 4503599627370496 % 2048 : Nat) : Int) := by
    have h := u64_and_nat (a / 4503599627370496) 2047 (by unfold signB at ha; omega) (by decide)
    rw [show a / 4503599627370496 &&& 2047 = a / 4503599627370496 % 2048 from Nat.and_two_pow_sub_one_eq_mod _ 11] at h
    exact h
  have f2 := and_frac ha
  have f4 : bits .or .u64 ((a % 4503599627370496 : Nat) : Int) 4503599627370496 = ((4503599627370496 + a % 4503599627370496 : Nat) : Int) := by
    have h : bits .or .u64 ((a % 4503599627370496 : Nat) : Int) 4503599627370496 = ((a % 4503599627370496 ||| 4503599627370496 : Nat) : Int) := u64_or_nat (a % 4503599627370496) 4503599627370496 (by omega) (by decide)
    rw [Nat.or_comm, nat_join 52 4503599627370496 (a % 4503599627370496) (by decide) (by omega)] at h
    exact h
  by_cases c : a / 4503599627370496 % 2048 = 0
  · have hr : takenM (a % signB) = a % 4503599627370496 ∧ takenE (a % signB) = -1074 := by
      unfold takenM takenE signB
      have hlt : a % 9223372036854775808 < 4503599627370496 := by omega
      rw [if_pos hlt, if_pos hlt]
      exact ⟨by omega, rfl⟩
    rw [hr.1, hr.2]
    rw [c] at f1
    obtain ⟨M, hM⟩ : ∃ z : Int, z = ((a % 4503599627370496 : Nat) : Int) := ⟨_, rfl⟩
    rw [← hM] at f2 f4 ⊢
    clear hM hr c ha
    go_enter Tryz.func42, Tryz.ntmps42
    go_wp2
    go_ret2
    exact ⟨rfl, 0, rfl⟩
  · have hr : takenM (a % signB) = 4503599627370496 + a % 4503599627370496 ∧ takenE (a % signB) = ((a / 4503599627370496 % 2048 : Nat) : Int) - 1075 := by
      unfold takenM takenE signB
      have hlt : ¬ a % 9223372036854775808 < 4503599627370496 := by omega
      rw [if_neg hlt, if_neg hlt]
      exact ⟨by omega, by omega⟩
    rw [hr.1, hr.2]
    have c2 : ¬ ((a / 4503599627370496 % 2048 : Nat) : Int) = 0 := by omega
    have c3 : 0 ≤ ((a / 4503599627370496 % 2048 : Nat) : Int) ∧ ((a / 4503599627370496 % 2048 : Nat) : Int) < 2048 := by omega
    obtain ⟨X, hX⟩ : ∃ z : Int, z = ((a / 4503599627370496 % 2048 : Nat) : Int) := ⟨_, rfl⟩
    obtain ⟨Z, hZ⟩ : ∃ z : Int, z = ((4503599627370496 + a % 4503599627370496 : Nat) : Int) := ⟨_, rfl⟩
    obtain ⟨M, hM⟩ : ∃ z : Int, z = ((a % 4503599627370496 : Nat) : Int) := ⟨_, rfl⟩
    rw [← hX] at f1 c2 c3 ⊢
    rw [← hZ] at f4 ⊢
    rw [← hM] at f2 f4
    have w1 : IntKind.i64.wrap X = X := by
      rw [IntKind.wrap_i64]
      omega
    have w2 : IntKind.i64.wrap (X - 1075) = X - 1075 := by
      rw [IntKind.wrap_i64]
      omega
    clear hM hr c ha hX hZ
    go_enter Tryz.func42, Tryz.ntmps42
    go_wp2
    go_ret2
    exact ⟨rfl, 0, rfl⟩

end Go.Proofs.YtjlnbfpjlladoaaGreatDoor
