/- The document's readers of a text: what holds in their loops (plain). gafferlaw05.spoil (contract): it writes its own row alone. The document's Has of any op. The document's words and number (contracts). The document's read (contract): the instruction of a line. The document's Parse (contract): the program of a text. -/
import Derived.Test.YtiidkgdlngcpgaaGreatDoorQe
import Derived.RangeFuncBox
import Derived.Test.YtiidkgdlngcpgaaGreatDoorPr
import Derived.Test.YtiidkgdlngcpgaaGreatDoorPz
import Derived.Test.YtiidkgdlngcpgaaGreatDoorKr5
import Derived.Test.YtiidkgdlngcpgaaGreatDoorPa
import Derived.Test.YtiidkgdlngcpgaaGreatDoorPp
import Derived.Test.YtiidkgdlngcpgaaGreatDoorNumRP
import Derived.Test.YtiidkgdlngcpgaaGreatDoorNumParse2
import Derived.Deep.Onto
import Derived.Test.YtiidkgdlngcpgaaGreatDoorPe
import Derived.Test.YtiidkgdlngcpgaaGreatDoorPu
set_option maxRecDepth 100000
namespace Go.Proofs.YtiidkgdlngcpgaaGreatDoor
open Ieee

/-- the words that have come: `from_` is where the word under way begins -/
def WInv (L : List UInt8) (i from_ : Nat) (ws : List (List UInt8)) : Prop := from_ ≤ i ∧ i ≤ L.length ∧ spl 32 L = ws ++ spl 32 (L.drop from_) ∧ (32 : UInt8) ∉ (L.drop from_).take (i - from_) ∧ ws.length ≤ i
theorem winv_zero (L : List UInt8) : WInv L 0 0 [] := ⟨Nat.le_refl _, Nat.zero_le _, by simp, by simp, by simp⟩
theorem take_one {L : List UInt8} {i f : Nat} (hf : f ≤ i) (hi : i < L.length) : (L.drop f).take (i + 1 - f) = (L.drop f).take (i - f) ++ [L[i]'hi] := by
  have h1 : i - f < (L.drop f).length := by rw [List.length_drop]; omega
  rw [show i + 1 - f = (i - f) + 1 by omega, List.take_succ_eq_append_getElem h1]
  congr 2
  rw [List.getElem_drop]
  congr 1
  omega
theorem winv_next {L : List UInt8} {i f : Nat} {ws : List (List UInt8)} (h : WInv L i f ws) (hi : i < L.length) (hc : L[i]'hi ≠ 32) : WInv L (i + 1) f ws := by
  refine ⟨by have := h.1; omega, by omega, h.2.2.1, ?_, by have := h.2.2.2.2; omega⟩
  rw [take_one h.1 hi]
  intro hm
  rcases List.mem_append.1 hm with hm | hm
  · exact h.2.2.2.1 hm
  · rw [List.mem_singleton] at hm
    exact hc hm.symm
theorem drop_split {L : List UInt8} {i f : Nat} (hf : f ≤ i) (hi : i < L.length) : L.drop f = (L.drop f).take (i - f) ++ L[i]'hi :: L.drop (i + 1) := by
  conv => lhs; rw [← List.take_append_drop (i - f) (L.drop f)]
  rw [List.drop_drop, show f + (i - f) = i by omega, List.drop_eq_getElem_cons hi]
theorem winv_blank {L : List UInt8} {i f : Nat} {ws : List (List UInt8)} (h : WInv L i f ws) (hi : i < L.length) (hc : L[i]'hi = 32) : WInv L (i + 1) (i + 1) (ws ++ [(L.drop f).take (i - f)]) := by
  refine ⟨Nat.le_refl _, by omega, ?_, by simp, by have := h.2.2.2.2; simp; omega⟩
  rw [h.2.2.1]
  conv => lhs; rw [drop_split h.1 hi, hc]
  rw [spl_app _ h.2.2.2.1]
  simp
theorem winv_end {L : List UInt8} {i f : Nat} {ws : List (List UInt8)} (h : WInv L i f ws) (hi : i = L.length) : ws ++ [(L.drop f).take (i - f)] = spl 32 L := by
  have h4 := h.2.2.2.1
  rw [List.take_of_length_le (by rw [List.length_drop]; omega)] at h4 ⊢
  rw [h.2.2.1, spl_none h4]
/-- the number of a text as the document reads it -/
theorem nval_take (L : List UInt8) (i : Nat) (hi : i < L.length) : nval (L.take (i + 1)) = 10 * nval (L.take i) + (L[i]'hi).toNat % 16 := by
  rw [List.take_succ_eq_append_getElem hi, nval_snoc]
theorem nval_small (L : List UInt8) (i : Nat) (hi : i ≤ 10) : nval (L.take i) < 20000000000 := by
  have h := nval_le (L.take i)
  have h2 : (L.take i).length ≤ 10 := by rw [List.length_take]; omega
  have h3 : 10 ^ (L.take i).length ≤ 10 ^ 10 := Nat.pow_le_pow_right (by decide) h2
  have : (10 : Nat) ^ 10 = 10000000000 := by decide
  omega
theorem num_isSome (L : List UInt8) : (numOf L).isSome = (decide (L.length ≤ 9) && (Lib.decDigits (nval (L.take 10)) == L)) := by
  rw [num_told]
  by_cases h1 : L.length ≤ 9 <;> by_cases h2 : Lib.decDigits (nval (L.take 10)) = L <;> simp [h1, h2]
theorem num_some {L : List UInt8} {m : Nat} (h : numOf L = some m) : nval (L.take 10) = m := by
  rw [num_told] at h
  split at h
  · injection h
  · cases h

/-- the lines that have come -/
def PInv (T : List UInt8) (k from_ fuel : Nat) (acc : List Ins) : Prop :=
  from_ ≤ T.length ∧ 1 ≤ k ∧ k ≤ from_ + 1 ∧ acc.length ≤ k ∧ (∀ x ∈ acc, x.k < 2 * signB) ∧ fuel < 1000000000 ∧ parseT T = parseY (yl (decide (k = 1)) (spl 10 (T.drop from_))) k fuel acc
theorem pinv_zero (T : List UInt8) : PInv T 1 0 0 [] := ⟨Nat.zero_le _, by omega, by omega, by simp, by simp, by decide, by rw [parseT_yl]; rfl⟩
/-- the line under way -/
def lineAt (T : List UInt8) (from_ upto_ : Nat) : List UInt8 := (T.drop from_).take (upto_ - from_)
theorem line_more {T : List UInt8} {f t : Nat} (hf : f ≤ t) (ht : t < T.length) (h : (10 : UInt8) ∉ lineAt T f t) (hc : T[t]'ht ≠ 10) : (10 : UInt8) ∉ lineAt T f (t + 1) := by
  show (10 : UInt8) ∉ (T.drop f).take (t + 1 - f)
  rw [take_one hf ht]
  intro hm
  rcases List.mem_append.1 hm with hm | hm
  · exact h hm
  · rw [List.mem_singleton] at hm
    exact hc hm.symm
theorem pinv_open {T : List UInt8} {k f fuel : Nat} {acc : List Ins} (h : PInv T k f fuel acc) (hgo : f < T.length ∨ k = 1) (hno : (10 : UInt8) ∉ lineAt T f T.length) : parseT T = (55, k, 0, []) := by
  have h10 : (10 : UInt8) ∉ T.drop f := by
    unfold lineAt at hno
    rwa [List.take_of_length_le (by rw [List.length_drop]; omega)] at hno
  rw [h.2.2.2.2.2.2, spl_none h10, yl, if_neg, parseY, if_pos rfl]
  rintro ⟨e1, e2⟩
  rcases hgo with hgo | hgo
  · have := congrArg List.length e1
    rw [List.length_drop, List.length_nil] at this
    omega
  · exact absurd hgo (by simpa using e2)
theorem pinv_line {T : List UInt8} {k f t fuel : Nat} {acc : List Ins} (h : PInv T k f fuel acc) (hf : f ≤ t) (ht : t < T.length) (hno : (10 : UInt8) ∉ lineAt T f t) (hc : T[t]'ht = 10) :
    parseT T = parseY ((lineAt T f t, true) :: yl false (spl 10 (T.drop (t + 1)))) k fuel acc := by
  rw [h.2.2.2.2.2.2]
  have e : T.drop f = lineAt T f t ++ 10 :: T.drop (t + 1) := by
    have := drop_split hf ht
    rw [hc] at this
    exact this
  rw [e, spl_app _ hno]
  obtain ⟨w, ws, e2⟩ := spl_cons 10 (T.drop (t + 1))
  rw [e2, yl]
theorem pinv_first {T : List UInt8} {f t fuel : Nat} {acc : List Ins} (h : PInv T 1 f fuel acc) (hf : f ≤ t) (ht : t < T.length) (hno : (10 : UInt8) ∉ lineAt T f t) (hc : T[t]'ht = 10) :
    (fuelOf (lineAt T f t) = none → parseT T = (55, 1, 0, [])) ∧ ∀ m, fuelOf (lineAt T f t) = some m → PInv T 2 (t + 1) m acc := by
  have e := pinv_line h hf ht hno hc
  rw [parseY, if_neg (by decide), if_pos rfl] at e
  constructor
  · intro hn
    rw [hn] at e
    exact e
  · intro m hm
    rw [hm] at e
    refine ⟨by omega, by omega, by omega, by have := h.2.2.2.1; omega, h.2.2.2.2.1, ?_, e⟩
    unfold fuelOf at hm
    split at hm
    · have hs := numOf_some hm
      exact le_digits 8 m (by rw [← Lib.decDigits_length, hs.1]; exact hs.2)
    · cases hm
theorem pinv_next {T : List UInt8} {k f t fuel : Nat} {acc : List Ins} (h : PInv T k f fuel acc) (hk : k ≠ 1) (hf : f ≤ t) (ht : t < T.length) (hno : (10 : UInt8) ∉ lineAt T f t) (hc : T[t]'ht = 10) :
    (readIns (lineAt T f t) = none → parseT T = (55, k, 0, [])) ∧ ∀ x, readIns (lineAt T f t) = some x → PInv T (k + 1) (t + 1) fuel (acc ++ [x]) := by
  have e := pinv_line h hf ht hno hc
  rw [parseY, if_neg (by decide), if_neg hk] at e
  constructor
  · intro hn
    rw [hn] at e
    exact e
  · intro x hx
    rw [hx] at e
    refine ⟨by omega, by omega, by have := h.2.2.1; omega, by have := h.2.2.2.1; rw [List.length_append, List.length_singleton]; omega, fun y hy => ?_, h.2.2.2.2.2.1, ?_⟩
    · rcases List.mem_append.1 hy with hy | hy
      · exact h.2.2.2.2.1 y hy
      · rw [List.mem_singleton] at hy
        rw [hy]
        exact (line_readIns hx).1.kb
    · rw [show decide (k + 1 = 1) = false from decide_eq_false (by have := h.2.1; omega)]
      exact e
theorem pinv_end {T : List UInt8} {k f fuel : Nat} {acc : List Ins} (h : PInv T k f fuel acc) (hf : ¬ f < T.length) (hk : k ≠ 1) : parseT T = checkRes fuel acc := by
  rw [h.2.2.2.2.2.2, List.drop_of_length_le (by omega), decide_eq_false hk]
  rfl
/-- the op as a loop over the words finds it -/
def opLast (w : List UInt8) : Nat → Nat
  | 0 => 0
  | i + 1 => if 1 ≤ i ∧ opText i = w then i else opLast w i
theorem opLast_is (w : List UInt8) : ∀ i, i ≤ 25 → opLast w i = if 1 ≤ opOf w ∧ opOf w < i then opOf w else 0
  | 0, _ => by rw [if_neg (by omega)]; rfl
  | i + 1, h => by
    rw [opLast, opLast_is w i (by omega)]
    by_cases h1 : 1 ≤ i ∧ opText i = w
    · have e := opOf_hit h1.1 (by omega) h1.2
      rw [if_pos h1, e, if_pos (by omega)]
    · rw [if_neg h1]
      by_cases h2 : 1 ≤ opOf w ∧ opOf w < i
      · rw [if_pos h2, if_pos (by omega)]
      · rw [if_neg h2, if_neg]
        intro h3
        have h4 : opOf w = i := by omega
        have := opOf_some (w := w) rfl (by omega)
        exact h1 ⟨by omega, by rw [← h4]; exact this.1⟩
theorem opOf_lt (w : List UInt8) : opOf w < 25 := by
  by_cases h : opOf w = 0
  · omega
  · exact (opOf_some rfl h).2.2
theorem opLast_end (w : List UInt8) : opLast w 25 = opOf w := by
  rw [opLast_is w 25 (by omega)]
  have := opOf_lt w
  by_cases h : 1 ≤ opOf w
  · rw [if_pos (by omega)]
  · rw [if_neg (by omega)]; omega
theorem opLast_one (w : List UInt8) : opLast w 1 = 0 := by rw [opLast, if_neg (by omega)]; rfl
theorem opLast_succ (w : List UInt8) {i : Nat} (h : 1 ≤ i) : opLast w (i + 1) = if opText i = w then i else opLast w i := by
  rw [opLast]
  by_cases h2 : opText i = w
  · rw [if_pos ⟨h, h2⟩, if_pos h2]
  · rw [if_neg (fun hh => h2 hh.2), if_neg h2]
end Go.Proofs.YtiidkgdlngcpgaaGreatDoor

namespace Go.Proofs.YtiidkgdlngcpgaaGreatDoor
open Go.RowKit

theorem rhas0_any {o : Nat} (ho : o < 25) (w : World) : Calls Tryz.prog 47 #[.int .i64 (o : Nat)] w fun e w' => e = .returned (.tuple #[.int .i64 (opRegs o), .bool (opN o), .bool (opK o)]) ∧ w' = w := by
  rcases o with _ | o
  · exact calls_run 1000 (fn := Tryz.f47) Tryz.func47 (fun cs => by kernel_rfl)
  · exact rhas_any (by omega) ho w
theorem cell3 {w : World} {g : Nat} {t : TypeId} {a b c : Value} (h : Cells w g t #[a, b, c]) (i : Nat) (hi : i < 3) : ∃ v, w.cell? ⟨g, i, none⟩ = some v := by
  rcases i with _ | _ | _ | i
  · exact ⟨_, h.cell (j := 0) rfl⟩
  · exact ⟨_, h.cell (j := 1) rfl⟩
  · exact ⟨_, h.cell (j := 2) rfl⟩
  · omega
/-- a row of the call's own, whatever it holds -/
def RowX (w : World) (base : Nat) (v : Value) (n : Nat) : Prop := ∃ xs, w.ownsRow base 43 6 v n xs
section
variable {w w' : World} {base n cap g : Nat} {v : Value}
theorem RowI.any {l : List Ins} (h : RowI w base v l) : RowX w base v l.length := ⟨_, h⟩
theorem RowX.shape (h : RowX w base v n) : ∃ A cap, v = .slice A n cap := by
  obtain ⟨xs, h⟩ := h
  rcases h.2 with ⟨rfl, h0⟩ | ⟨g, cap, cur, rfl, _⟩
  · exact ⟨none, 0, by rw [h0]⟩
  · exact ⟨_, _, rfl⟩
theorem RowX.form {A : Option Addr} (h : RowX w base (.slice A n cap) n) (hn : 0 < n) : ∃ g, A = some ⟨g, 0, none⟩ ∧ base ≤ g ∧ g < w.heap.size := by
  obtain ⟨xs, h⟩ := h
  have hl := h.lt
  rcases h.2 with ⟨_, h0⟩ | ⟨g, cap', cur, h1, _⟩
  · omega
  · injection h1 with h1 h2 h3
    subst h1
    have := hl g rfl
    exact ⟨g, rfl, this.1, this.2⟩
theorem RowX.ne {t : TypeId} {c : Array Value} (h : RowX w base v n) (hc : Cells w g t c) (ht : t ≠ 43) : ∀ k, v.ownBlock = some k → k ≠ g := fun k hk e => by
  subst e
  obtain ⟨xs, h⟩ := h
  obtain ⟨cur, hcur⟩ := own_block_type h hk
  unfold Cells at hc
  rw [hcur] at hc
  injection hc with hc
  injection hc with h1 h2
  exact ht h2.symm
theorem RowX.cellAt (h : RowX w base (.slice (some ⟨g, 0, none⟩) n cap) n) (j : Nat) (hj : j < n * 6) : ∃ u, w.cell? ⟨g, j, none⟩ = some u := by
  obtain ⟨xs, h⟩ := h
  rw [h.cellAt j hj]
  exact ⟨_, List.getElem?_eq_getElem (by rw [h.1]; exact hj)⟩
theorem RowX.fz (h : RowX w base (.slice (some ⟨g, 0, none⟩) n cap) n) (j : Nat) : w.frozen? ⟨g, j, none⟩ = false := by
  obtain ⟨xs, h⟩ := h
  exact h.frozenAt j
theorem RowX.set (h : RowX w base (.slice (some ⟨g, 0, none⟩) n cap) n) (j : Nat) (u : Value) : RowX (w.setCell ⟨g, j, none⟩ u) base (.slice (some ⟨g, 0, none⟩) n cap) n := by
  obtain ⟨xs, h⟩ := h
  exact ⟨_, (h.stored j u).1⟩
theorem RowX.set6 (h : RowX w base (.slice (some ⟨g, 0, none⟩) n cap) n) (k : Nat) (a b c d e f : Value) :
    RowX ((((((w.setCell ⟨g, k, none⟩ a).setCell ⟨g, k + 1, none⟩ b).setCell ⟨g, k + 2, none⟩ c).setCell ⟨g, k + 3, none⟩ d).setCell ⟨g, k + 4, none⟩ e).setCell ⟨g, k + 5, none⟩ f) base (.slice (some ⟨g, 0, none⟩) n cap) n :=
  (((((h.set _ a).set _ b).set _ c).set _ d).set _ e).set _ f
theorem far6 {x k : Nat} {t : TypeId} {cs : Array Value} {a b c d e f : Value} (h : Cells w g t cs) (hne : g ≠ x) :
    Cells ((((((w.setCell ⟨x, k, none⟩ a).setCell ⟨x, k + 1, none⟩ b).setCell ⟨x, k + 2, none⟩ c).setCell ⟨x, k + 3, none⟩ d).setCell ⟨x, k + 4, none⟩ e).setCell ⟨x, k + 5, none⟩ f) g t cs :=
  (((((h.far (a := ⟨x, k, none⟩) hne _).far (a := ⟨x, k + 1, none⟩) hne _).far (a := ⟨x, k + 2, none⟩) hne _).far (a := ⟨x, k + 3, none⟩) hne _).far (a := ⟨x, k + 4, none⟩) hne _).far (a := ⟨x, k + 5, none⟩) hne _
theorem below6 {w0 : World} {x k B : Nat} {a b c d e f : Value} (h : Below B w0 w) (hx : B ≤ x) :
    Below B w0 ((((((w.setCell ⟨x, k, none⟩ a).setCell ⟨x, k + 1, none⟩ b).setCell ⟨x, k + 2, none⟩ c).setCell ⟨x, k + 3, none⟩ d).setCell ⟨x, k + 4, none⟩ e).setCell ⟨x, k + 5, none⟩ f) :=
  (((((h.setCell hx a).setCell hx b).setCell hx c).setCell hx d).setCell hx e).setCell hx f
end

set_option maxHeartbeats 4000000 in
set_option maxRecDepth 100000 in
theorem spoil_any (fuel : Int) (A : Option Addr) (n cap base : Nat) (w : World) (hW : RowX w base (.slice A n cap) n) (hb : base ≤ w.heap.size) (hn : n < 1073741820) :
    Calls Tryz.prog 20 #[.agg #[.int .i64 fuel, .slice A n cap]] w fun e w' => e = .returned (.tuple #[]) ∧ Below base w w' := by
  obtain ⟨i0, hi, hz0, hz1, hz2⟩ := info_parts ins_info
  have HX := Lib.hid (Cells.new w 24 #[.int .i64 fuel, .slice A n cap])
  have HB := Lib.hid ((Below.refl base w).alloc hb (.cells #[.int .i64 fuel, .slice A n cap] 24))
  have HW : Hid (RowX (w.alloc (.cells #[.int .i64 fuel, .slice A n cap] 24)) base (.slice A n cap) n) := Lib.hid (by obtain ⟨xs, h⟩ := hW; exact ⟨xs, h.alloc _⟩)
  clear hW
  go_enter Tryz.func20, Tryz.ntmps20
  go_upto_region 1 with fail
  generalize w.alloc (.cells #[.int .i64 fuel, .slice A n cap] 24) = w1 at *
  generalize w.heap.size = PB at *
  go_wp2
  go_loopw [2] (fun iv wr => ∃ i : Nat, i ≤ n ∧ iv = .int .i64 (i : Int) ∧ Cells wr PB 24 #[.int .i64 fuel, .slice A n cap] ∧ RowX wr base (.slice A n cap) n ∧ Below base w wr) (fun iv _ => n - (intOf iv).toNat)
  case atStart => exact ⟨0, Nat.zero_le _, rfl, HX.out, HW.out, HB.out⟩
  case round =>
    obtain ⟨i, hi2, rfl, hX, hR, hB⟩ := hrel
    have HXR := Lib.hid hX
    have HRR := Lib.hid hR
    have HBR := Lib.hid hB
    have p1 : wr.cell? ⟨PB, 1, none⟩ = some (.slice A n cap) := hX.cell (j := 1) rfl
    clear hX hR hB HX HW HB
    by_cases hlt : i < n
    · obtain ⟨g, rfl, hg1, hg2⟩ := HRR.out.form (by omega)
      have HNE := Lib.hid (show PB ≠ g from (HRR.out.ne HXR.out (by decide) g rfl).symm)
      have HG1 := Lib.hid hg1
      have hj : i * 6 + 6 ≤ n * 6 := by omega
      obtain ⟨u0, c0⟩ := HRR.out.cellAt (i * 6) (by omega)
      obtain ⟨u1, c1⟩ := HRR.out.cellAt (i * 6 + 1) (by omega)
      obtain ⟨u2, c2⟩ := HRR.out.cellAt (i * 6 + 2) (by omega)
      obtain ⟨u3, c3⟩ := HRR.out.cellAt (i * 6 + 3) (by omega)
      obtain ⟨u4, c4⟩ := HRR.out.cellAt (i * 6 + 4) (by omega)
      obtain ⟨u5, c5⟩ := HRR.out.cellAt (i * 6 + 5) (by omega)
      have z0 := HRR.out.fz (i * 6)
      have z1 := HRR.out.fz (i * 6 + 1)
      have z2 := HRR.out.fz (i * 6 + 2)
      have z3 := HRR.out.fz (i * 6 + 3)
      have z4 := HRR.out.fz (i * 6 + 4)
      have z5 := HRR.out.fz (i * 6 + 5)
      have i0' : (0 : Int) ≤ i := by omega
      have i1 : (i : Int) < n := by omega
      have hwi : wrap64 ((i : Int) + 1) = (i : Int) + 1 := by unfold wrap64; omega
      have HLT := Lib.hid (show i + 1 ≤ n ∧ i < n from ⟨hlt, hlt⟩)
      clear hj hg1 hg2 hlt hi2
      go_wp2
      refine ⟨⟨i + 1, HLT.out.1, by first | exact up_val hwi | rfl, far6 HXR.out HNE.out, HRR.out.set6 (i * 6) _ _ _ _ _ _, below6 HBR.out HG1.out⟩, by first | exact up_end HLT.out.2 hwi | (have hh := HLT.out; simp [intOf]; omega)⟩
    · obtain rfl : i = n := by omega
      have i1 : ¬ (i : Int) < i := by omega
      obtain ⟨xs, hxs⟩ := HRR.out
      have HOW := Lib.hid hxs
      have hwp : wrap64 (i : Int) = (i : Int) := by unfold wrap64; omega
      have i5 : (0 : Int) ≤ i := by omega
      have i6 : (i : Int) < (i : Int) + 1 := by omega
      have HIN := Lib.hid (show i < 1073741824 from by omega)
      have HSB := Lib.hid (show base ≤ wr.heap.size from Nat.le_of_lt (Nat.lt_of_le_of_lt hb HXR.out.lt))
      clear hxs hn hi2 hlt
      go_wp2_with (at_builtin; go_loud (refine wpList_append_elem' rfl _ _ _ rfl base 43 i0 _ 6 48 Tryz.underlying22 hi hz0 hz1 hz2 rfl (by decide) (.slice A i cap) i xs rfl HOW.out #[.int .i64 (-9), .int .i64 0, .int .i64 0, .int .i64 0, .int .i64 0, .int .u64 0] rfl (by simp [Value.oneCell']) _ rfl rfl HIN.out (by decide) HSB.out ?_); intro v' w9 hown hgrow hat; obtain ⟨g', cap', rfl⟩ := ownsRow_succ hown; have HR9 : Hid (RowX w9 base (.slice (some ⟨g', 0, none⟩) (i + 1) cap') (i + 1)) := Lib.hid ⟨_, hown⟩; have HB9 := Lib.hid (HBR.out.grown hgrow HSB.out (fun k hk => (World.ownsRow.lt HOW.out k hk).1)); obtain ⟨u4, c4⟩ := HR9.out.cellAt (i * 6 + 4) (by omega); have z4 := HR9.out.fz (i * 6 + 4); have HG9 := Lib.hid (hown.lt g' rfl).1; clear hown hgrow hat)
      go_end0
      exact ⟨rfl, HB9.out.setCell HG9.out _⟩
end Go.Proofs.YtiidkgdlngcpgaaGreatDoor

namespace Go.Proofs.YtiidkgdlngcpgaaGreatDoor
open Go.RowKit Ieee

theorem rdig_any {n : Nat} (h : n < 18446744073709551616) (W : World) : Calls Tryz.prog 35 #[.int .u64 (n : Nat)] W fun e w' => e = .returned (.string (strOf (Lib.decDigits n))) ∧ Below W.heap.size W w' := rdigits_any (n + 1) n (Nat.lt_succ_self n) h W
theorem byte_index {l : List UInt8} {j : Nat} (h : j < l.length) (w : World) : (Instr.index 9 (.string (strOf l)) (.int .i64 (j : Nat))).run Tryz.prog w = .ok (.int .u8 (((l[j]'h).toNat : Nat) : Int)) w := by
  have hsz : (strOf l).size = l.length := by rw [ba_size]
  rw [run_index_string w 9 (strOf l) .i64 (j : Int) Tryz.underlying9, dif_pos ⟨by omega, by rw [hsz]; omega⟩]
  congr 3
theorem ext_mid (L : List UInt8) (i j : Nat) : (strOf L).extract i j = strOf ((L.drop i).take (j - i)) := by
  apply ByteArray.ext
  rw [ByteArray.data_extract]
  simp [strOf]
theorem str_mid {l : List UInt8} {i j : Nat} (h : i ≤ j) (hj : j ≤ l.length) (w : World) : (Instr.slice 9 (.string (strOf l)) (some (.int .i64 (i : Nat))) (some (.int .i64 (j : Nat))) none).run Tryz.prog w = .ok (.string (strOf ((l.drop i).take (j - i)))) w := by
  have hsz : (strOf l).size = l.length := by rw [ba_size]
  rw [run_slice_string w 9 (strOf l) .i64 .i64 (i : Int) (j : Int) Tryz.underlying9 (by omega) (by omega) (by rw [hsz]; omega), Int.toNat_natCast, Int.toNat_natCast, ext_mid]
theorem byte_is (x : UInt8) (k : Nat) (hk : k < 256) : (((x.toNat : Nat) : Int) == (k : Nat)) = decide (x.toNat = k) := by
  by_cases h : x.toNat = k
  · rw [h]; simp
  · rw [decide_eq_false h, beq_eq_false_iff_ne]
    omega

set_option maxHeartbeats 4000000 in
set_option maxRecDepth 100000 in
theorem rnumber_any (L : List UInt8) (hs : L.length < 1073741824) (w : World) :
    Calls Tryz.prog 42 #[.string (strOf L)] w fun e w' => (∃ n : Int, e = .returned (.tuple #[.int .i64 n, .bool (numOf L).isSome]) ∧ ∀ m : Nat, numOf L = some m → n = (m : Int)) ∧ Below w.heap.size w w' := by
  have hsz : (strOf L).size = L.length := strOf_size L
  have HIX := Lib.hid (fun (j : Nat) (h : j < L.length) W => byte_index h W)
  have HST : Hid ((strOf L).toList = L) := Lib.hid (str_toList L)
  have HNS := Lib.hid (num_isSome L)
  have HSO := Lib.hid (fun m (h : numOf L = some m) => num_some h)
  have HNT := Lib.hid (nval_take L)
  have HNL := Lib.hid (nval_small L)
  have HTL : Hid (∀ i, i ≤ L.length → i ≤ 10 → ¬ (i < L.length ∧ i < 10) → L.take i = L.take 10) := Lib.hid fun i h1 h2 h3 => by
    by_cases h : i < 10
    · have : i = L.length := by omega
      rw [List.take_of_length_le (by omega), List.take_of_length_le (by omega)]
    · rw [show i = 10 by omega]
  have HN0 : Hid (nval (L.take 0) = 0) := Lib.hid rfl
  obtain ⟨S, hS⟩ : ∃ S, strOf L = S := ⟨_, rfl⟩
  rw [hS] at hsz HIX HST ⊢
  clear hS
  obtain ⟨nv, hnv⟩ : ∃ nv : Nat → Nat, (fun i => nval (L.take i)) = nv := ⟨_, rfl⟩
  have HNV := Lib.hid hnv
  clear hnv
  go_enter Tryz.func42, Tryz.ntmps42
  go_wp2
  go_loopw [5, 4] (fun iv av wr => ∃ i : Nat, i ≤ L.length ∧ i ≤ 10 ∧ iv = .int .i64 (i : Int) ∧ av = .int .u64 ((nv i : Nat) : Int) ∧ wr = w) (fun iv _ _ => 10 - (intOf iv).toNat)
  case atStart => exact ⟨0, by omega, by omega, rfl, by rw [← HNV.out]; rfl, rfl⟩
  case round =>
    obtain ⟨i, hi, hi10, rfl, rfl, hwr⟩ := hrel
    rw [hwr]
    clear hwr
    have hsm : nv i < 20000000000 := by rw [← HNV.out]; exact HNL.out i hi10
    by_cases hgo : i < L.length ∧ i < 10
    · have hx := HIX.out i hgo.1
      have hst : nv (i + 1) = 10 * nv i + (L[i]'hgo.1).toNat % 16 := by rw [← HNV.out]; exact HNT.out i hgo.1
      have hc : (L[i]'hgo.1).toNat < 256 := UInt8.toNat_lt _
      generalize (L[i]'hgo.1).toNat = c at *
      have t1 : (i : Int) < (S.size : Int) := by omega
      have t2 : (i : Int) < 10 := by omega
      have t3 : (0 : Int) ≤ i := by omega
      have HG := Lib.hid (show i + 1 ≤ L.length ∧ i + 1 ≤ 10 ∧ i < 10 from ⟨by omega, by omega, by omega⟩)
      have hwi : wrap64 ((i : Int) + 1) = (i : Int) + 1 := by unfold wrap64; omega
      have w1 : IntKind.u64.wrap (10 * ((nv i : Nat) : Int)) = 10 * ((nv i : Nat) : Int) := by rw [IntKind.wrap_u64]; omega
      have w2 : IntKind.u64.wrap ((c : Nat) : Int) = ((c : Nat) : Int) := by
        rw [IntKind.wrap_u64]; omega
      have w4 : IntKind.u64.wrap (10 * ((nv i : Nat) : Int) + ((c : Nat) : Int) % 16) = ((nv (i + 1) : Nat) : Int) := by rw [IntKind.wrap_u64]; omega
      clear hc hst hgo hi hi10 hsm
      have HWI := Lib.hid hwi
      clear hwi
      go_wp2
      exact ⟨⟨i + 1, HG.out.1, HG.out.2.1, by first | exact up_val HWI.out | rfl, by first | rfl | trivial | exact congrArg _ w4, by first | rfl | trivial⟩, by first | exact up_end HG.out.2.2 HWI.out | (have hh := HG.out; simp [intOf]; omega)⟩
    · have heq : nv i = nv 10 := by rw [← HNV.out]; show nval (L.take i) = nval (L.take 10); rw [HTL.out i hi hi10 hgo]
      have HS1 : Hid ((numOf L).isSome = (decide (L.length ≤ 9) && (Lib.decDigits (nv 10) == L))) := Lib.hid (by rw [← HNV.out]; exact HNS.out)
      have HS2 : Hid (∀ m : Nat, numOf L = some m → ((nv 10 : Nat) : Int) = (m : Int)) := Lib.hid fun m h => by rw [← HNV.out]; show ((nval (L.take 10) : Nat) : Int) = m; rw [HSO.out m h]
      rw [heq] at hsm ⊢
      have hway : (¬ (i : Int) < (S.size : Int)) ∨ ((i : Int) < (S.size : Int) ∧ ¬ (i : Int) < 10) := by omega
      have kd := fun W => rdig_any (n := nv 10) (by omega) W
      have w1 : wrap64 ((nv 10 : Nat) : Int) = ((nv 10 : Nat) : Int) := by unfold wrap64; omega
      have hway2 : ((S.size : Int) ≤ 9 ∧ ∃ ok, ((strOf (Lib.decDigits (nv 10))).toList == S.toList) = ok ∧ (numOf L).isSome = ok) ∨ (¬ (S.size : Int) ≤ 9 ∧ (numOf L).isSome = false) := by
        rw [HS1.out]
        by_cases h9 : L.length ≤ 9
        · exact .inl ⟨by omega, _, rfl, by rw [decide_eq_true h9, str_toList, HST.out]; rfl⟩
        · exact .inr ⟨by omega, by rw [decide_eq_false h9]; rfl⟩
      have HW2 := Lib.hid hway2
      clear hway2 HS1 HNS HSO HNT HNL HTL HN0 HIX HST HNV heq hsz hgo hi hi10 hsm
      generalize strOf (Lib.decDigits (nv 10)) = D at *
      generalize nv 10 = N10 at *
      have KD := Lib.hid kd
      clear kd
      rcases HW2.out with ⟨h9, ok, he, hok⟩ | ⟨h9, hok⟩
      · have HOK := Lib.hid hok
        clear HW2 hok
        rcases hway with t1 | ⟨t1, t2⟩
        all_goals go_wp2_with (go_at_call 35; refine (KD.out _).mono ?_; rintro _ w2 ⟨rfl, hb2⟩; have HB2 := Lib.hid hb2; clear hb2)
        all_goals go_ret2
        all_goals exact ⟨⟨_, by rw [HOK.out]; rfl, HS2.out⟩, HB2.out⟩
      · have HOK := Lib.hid hok
        clear HW2 hok
        rcases hway with t1 | ⟨t1, t2⟩
        all_goals go_wp2
        all_goals go_ret2
        all_goals exact ⟨⟨_, by rw [HOK.out]; rfl, HS2.out⟩, Below.refl _ _⟩

/-- a row of texts of the call's own -/
def RowS (w : World) (base : Nat) (v : Value) (ws : List (List UInt8)) : Prop := w.ownsRow base 9 1 v ws.length (ws.map fun p => Value.string (strOf p))
theorem rowS_snoc {w : World} {base : Nat} {v : Value} {ws : List (List UInt8)} {p : List UInt8} (h : w.ownsRow base 9 1 v (ws.length + 1) (ws.map (fun p => Value.string (strOf p)) ++ [Value.string (strOf p)])) : RowS w base v (ws ++ [p]) := by
  unfold RowS
  rw [List.length_append, List.map_append]
  exact h
theorem str_info : (Tryz.prog.info? 9).map (fun i => (i.zero, i.size, i.bytes)) = some (some (.string ⟨#[]⟩), 1, 16) := by kernel_rfl
theorem RowS.word {w : World} {base g cap n : Nat} {ws : List (List UInt8)} (h : RowS w base (.slice (some ⟨g, 0, none⟩) n cap) ws) (j : Nat) (hj : j < ws.length) : w.cell? ⟨g, j, none⟩ = some (.string (strOf (ws.getD j []))) := by
  have h2 := World.ownsRow.cells h (g := g) rfl j (.string (strOf (ws.getD j []))) (by rw [List.getElem?_map, List.getElem?_eq_getElem hj, List.getD_eq_getElem?_getD, List.getElem?_eq_getElem hj]; rfl)
  rw [add_plain, Nat.zero_add] at h2
  exact h2
/-- where the words' loop stands -/
def WSt (L : List UInt8) (i f : Nat) (ws : List (List UInt8)) : Prop := (i ≤ L.length ∧ WInv L i f ws) ∨ (i = L.length + 1 ∧ ws = spl 32 L)

set_option maxHeartbeats 4000000 in
set_option maxRecDepth 100000 in
theorem rwords_any (L : List UInt8) (hs : L.length < 1073741820) (w : World) :
    Calls Tryz.prog 41 #[.string (strOf L)] w fun e w' => (∃ g cap, e = .returned (.slice (some ⟨g, 0, none⟩) (spl 32 L).length cap) ∧ RowS w' w.heap.size (.slice (some ⟨g, 0, none⟩) (spl 32 L).length cap) (spl 32 L)) ∧ Below w.heap.size w w' := by
  obtain ⟨i0, hi, hz0, hz1, hz2⟩ := info_parts str_info
  have HSZ : Hid ((strOf L).size = L.length) := Lib.hid (strOf_size L)
  have HIX := Lib.hid (fun (j : Nat) (h : j < L.length) W => byte_index h W)
  have HMD := Lib.hid (fun (i j : Nat) => ext_mid L i j)
  obtain ⟨S, hS⟩ : ∃ S, strOf L = S := ⟨_, rfl⟩
  rw [hS] at HSZ HIX HMD ⊢
  clear hS
  have HB := Lib.hid ((Below.refl w.heap.size w).alloc (Nat.le_refl _) (.cells #[] 9))
  have HW : Hid (RowS (w.alloc (.cells #[] 9)) w.heap.size (.slice (some ⟨w.heap.size, 0, none⟩) 0 0) []) := Lib.hid (World.ownsRow_lit w #[] 0 (Nat.le_refl _) (by decide) rfl)
  go_enter Tryz.func41, Tryz.ntmps41
  go_upto_region 2 with fail
  generalize w.alloc (.cells #[] 9) = w1 at *
  go_wp2
  go_loopw [5, 3, 4] (fun iv lv fv wr => ∃ (i f : Nat) (ws : List (List UInt8)) (g cap : Nat), i ≤ L.length + 1 ∧ iv = .int .i64 (i : Int) ∧ lv = .slice (some ⟨g, 0, none⟩) ws.length cap ∧ fv = .int .i64 (f : Int) ∧ RowS wr w.heap.size (.slice (some ⟨g, 0, none⟩) ws.length cap) ws ∧ Below w.heap.size w wr ∧ WSt L i f ws) (fun iv _ _ _ => L.length + 1 - (intOf iv).toNat)
  case atStart => exact ⟨0, 0, [], w.heap.size, 0, by omega, rfl, rfl, rfl, HW.out, HB.out, .inl ⟨Nat.zero_le _, winv_zero L⟩⟩
  case round =>
    obtain ⟨i, f, ws, g, cap, hi2, rfl, rfl, rfl, hR, hB, hI⟩ := hrel
    have HRR := Lib.hid hR
    have HBR := Lib.hid hB
    clear hR hB HW HB
    rcases hI with ⟨hle, hI⟩ | ⟨hend, hI⟩
    · have hsz := HSZ.out
      have t0 : (i : Int) ≤ (S.size : Int) := by omega
      have HIN := Lib.hid hI
      have hwi : wrap64 ((i : Int) + 1) = (i : Int) + 1 := by unfold wrap64; omega
      have HUE := Lib.hid (show L.length + 1 - (intOf (Value.int .i64 (wrap64 ((i : Int) + 1)))).toNat < L.length + 1 - (intOf (Value.int .i64 (i : Int))).toNat from up_end (by omega) hwi)
      have hway : i = S.size ∨ (((i : Int) == (S.size : Int)) = false ∧ ∃ h : i < L.length, (((((L[i]'h).toNat : Nat) : Int) == 32) = true ∧ L[i]'h = 32 ∨ ((((L[i]'h).toNat : Nat) : Int) == 32) = false ∧ L[i]'h ≠ 32)) := by
        by_cases h : i = L.length
        · exact .inl (by omega)
        · refine .inr ⟨by rw [beq_eq_false_iff_ne]; omega, by omega, ?_⟩
          have hb := byte_is (L[i]'(by omega)) 32 (by decide)
          by_cases h2 : (L[i]'(by omega)) = 32
          · exact .inl ⟨hb.trans (by rw [h2]; rfl), h2⟩
          · exact .inr ⟨hb.trans (decide_eq_false fun e => h2 (UInt8.toNat_inj.1 e)), h2⟩
      have hwl : ws.length < 1073741824 := by have := hI.2.2.2.2; omega
      have HWL := Lib.hid hwl
      have HLE := Lib.hid hle
      have i3 : (0 : Int) ≤ i := by omega
      have i4 : (0 : Int) ≤ f := by omega
      have i5 : (f : Int) ≤ i := by have := hI.1; omega
      have HSP := Lib.hid (HMD.out f i)
      clear hI hle hwl hi2 hsz
      rcases hway with rfl | ⟨t1, hlt, ⟨t2, he⟩ | ⟨t2, he⟩⟩
      · have HNW := Lib.hid (winv_end HIN.out HSZ.out)
        have HWI := Lib.hid hwi
        clear hwi
        go_wp2_with (at_builtin; go_loud (refine wpList_append_elem' rfl _ _ _ rfl w.heap.size 9 i0 _ 1 16 Tryz.underlying72 hi hz0 hz1 hz2 rfl (by decide) (.slice (some ⟨g, 0, none⟩) ws.length cap) ws.length (ws.map fun p => Value.string (strOf p)) rfl HRR.out #[.string (S.extract f S.size)] rfl (by simp [Value.oneCell']) _ rfl rfl HWL.out (by decide) HBR.out.size ?_); intro v' w9 hown hgrow hat; obtain ⟨g', cap', rfl⟩ := ownsRow_succ hown; have HW9 : Hid (RowS w9 w.heap.size (.slice (some ⟨g', 0, none⟩) (ws.length + 1) cap') (ws ++ [(L.drop f).take (S.size - f)])) := Lib.hid (rowS_snoc (by rw [← HSP.out]; exact hown)); have HB9 := Lib.hid (HBR.out.grown hgrow HBR.out.size (fun k hk => (World.ownsRow.lt HRR.out k hk).1)); clear hown hgrow hat)
        refine ⟨⟨S.size + 1, S.size + 1, spl 32 L, g', cap', by have := HLE.out; omega, by first | exact up_val HWI.out | rfl, ?_, by first | exact up_val HWI.out | rfl, ?_, HB9.out, .inr ⟨by rw [HSZ.out], rfl⟩⟩, by first | exact HUE.out | (have hh := HLE.out; simp [intOf]; omega)⟩
        · rw [← HNW.out]; simp
        · rw [← HNW.out]; simpa using HW9.out
      · have HE := Lib.hid (winv_blank HIN.out hlt he)
        have hx := HIX.out i hlt
        have HLT := Lib.hid hlt
        generalize (L[i]'hlt) = c at *
        have t4 : (i : Int) < (S.size : Int) := by have := HLT.out; have := HSZ.out; omega
        have HWI := Lib.hid hwi
        clear he hlt hwi
        go_wp2_with (at_builtin; go_loud (refine wpList_append_elem' rfl _ _ _ rfl w.heap.size 9 i0 _ 1 16 Tryz.underlying72 hi hz0 hz1 hz2 rfl (by decide) (.slice (some ⟨g, 0, none⟩) ws.length cap) ws.length (ws.map fun p => Value.string (strOf p)) rfl HRR.out #[.string (S.extract f i)] rfl (by simp [Value.oneCell']) _ rfl rfl HWL.out (by decide) HBR.out.size ?_); intro v' w9 hown hgrow hat; obtain ⟨g', cap', rfl⟩ := ownsRow_succ hown; have HW9 : Hid (RowS w9 w.heap.size (.slice (some ⟨g', 0, none⟩) (ws.length + 1) cap') (ws ++ [(L.drop f).take (i - f)])) := Lib.hid (rowS_snoc (by rw [← HSP.out]; exact hown)); have HB9 := Lib.hid (HBR.out.grown hgrow HBR.out.size (fun k hk => (World.ownsRow.lt HRR.out k hk).1)); clear hown hgrow hat)
        refine ⟨⟨i + 1, i + 1, ws ++ [(L.drop f).take (i - f)], g', cap', by have := HLE.out; omega, by first | exact up_val HWI.out | rfl, by simp, by first | exact up_val HWI.out | rfl, by simpa using HW9.out, HB9.out, .inl ⟨HLT.out, HE.out⟩⟩, by first | exact HUE.out | (have hh := HLE.out; simp [intOf]; omega)⟩
      · have HE := Lib.hid (winv_next HIN.out hlt he)
        have hx := HIX.out i hlt
        have HLT := Lib.hid hlt
        generalize (L[i]'hlt) = c at *
        have t4 : (i : Int) < (S.size : Int) := by have := HLT.out; have := HSZ.out; omega
        have HWI := Lib.hid hwi
        clear he hlt hwi
        go_wp2
        exact ⟨⟨i + 1, f, ws, g, cap, by have := HLE.out; omega, by first | exact up_val HWI.out | rfl, rfl, rfl, HRR.out, HBR.out, .inl ⟨HLT.out, HE.out⟩⟩, by first | exact HUE.out | (have hh := HLE.out; simp [intOf]; omega)⟩
    · have t0 : ¬ (i : Int) ≤ (S.size : Int) := by have := HSZ.out; omega
      subst hI
      clear hend
      go_wp2
      go_ret
      exact ⟨⟨g, cap, rfl, HRR.out⟩, HBR.out⟩
end Go.Proofs.YtiidkgdlngcpgaaGreatDoor

namespace Go.Proofs.YtiidkgdlngcpgaaGreatDoor
open Go.RowKit Ieee

theorem RowS.keep {w w' : World} {base : Nat} {v : Value} {ws : List (List UInt8)} (h : RowS w base v ws) (hb : Below w.heap.size w w') : RowS w' base v ws := own_kept h hb
theorem regX_set3 (ws : List (List UInt8)) (i : Nat) (hi : i < 3) (u : Nat) (hu : regU ws i = u) :
    (#[.int .i64 (regX ws i 0 : Nat), .int .i64 (regX ws i 1 : Nat), .int .i64 (regX ws i 2 : Nat)] : Array Value).setIfInBounds i (.int .i64 (u : Nat)) = #[.int .i64 (regX ws (i + 1) 0 : Nat), .int .i64 (regX ws (i + 1) 1 : Nat), .int .i64 (regX ws (i + 1) 2 : Nat)] := by
  subst hu
  rcases i with _ | _ | _ | i
  · simp [regX]
  · simp [regX]
  · simp [regX]
  · omega
theorem regX_zero3 (ws : List (List UInt8)) : (#[.int .i64 (regX ws 0 0 : Nat), .int .i64 (regX ws 0 1 : Nat), .int .i64 (regX ws 0 2 : Nat)] : Array Value) = #[.int .i64 0, .int .i64 0, .int .i64 0] := by simp [regX]
theorem ro_done {s : List UInt8} {a b c d e : Int} {k : Nat} {ok : Bool} (h1 : ok = (readIns s).isSome) (h2 : ∀ y, readIns s = some y → (⟨a, b, c, d, e, k⟩ : Ins) = y) : ReadOut s (.returned (.tuple #[.agg #[.int .i64 a, .int .i64 b, .int .i64 c, .int .i64 d, .int .i64 e, .int .u64 k], .bool ok])) := ⟨_, by rw [h1], h2⟩

set_option maxHeartbeats 8000000 in
set_option maxRecDepth 100000 in
theorem rread_any (s : List UInt8) (hs : s.length < 1073741820) (w : World) :
    Calls Tryz.prog 43 #[.string (strOf s)] w fun e w' => ReadOut s e ∧ Below w.heap.size w w' := by
  obtain ⟨ws, hws⟩ : ∃ ws, spl 32 s = ws := ⟨_, rfl⟩
  have HWS := Lib.hid hws
  have ks := fun W => rwords_any s hs W
  rw [hws] at ks
  have hge : 1 ≤ ws.length := by rw [← hws]; exact spl_ge 32 s
  have hle : ws.length ≤ 1073741824 := by
    rw [← hws, spl_count]
    have : s.count 32 ≤ s.length := List.count_le_length
    omega
  have HLN := Lib.hid (show ∀ j, (ws.getD j []).length < 1073741820 from fun j => by rw [← hws]; exact Nat.lt_of_le_of_lt (spl_getD_len 32 s j) hs)
  have HW0 := Lib.hid (show ws.headD [] = ws.getD 0 [] from by rw [← hws]; exact spl_head 32 s)
  obtain ⟨o, ho⟩ : ∃ o, opOf (ws.getD 0 []) = o := ⟨_, rfl⟩
  have HOP := Lib.hid ho
  have ho25 : o < 25 := ho ▸ opOf_lt _
  have HMISS := Lib.hid (fun h => read_miss (s := s) (o := o) (by rw [hws, HW0.out]; exact ho) h)
  obtain ⟨SS, hSS⟩ : ∃ SS, SS = strOf s := ⟨_, rfl⟩
  rw [← hSS] at ks ⊢
  have KS := Lib.hid ks
  have HWL := Lib.hid (show 1 ≤ ws.length ∧ ws.length ≤ 1073741824 from ⟨hge, hle⟩)
  have HX0 := Lib.hid (Cells.new w 43 #[.int .i64 0, .int .i64 0, .int .i64 0, .int .i64 0, .int .i64 0, .int .u64 0])
  have HB0 := Lib.hid ((Below.refl w.heap.size w).alloc (Nat.le_refl _) (.cells #[.int .i64 0, .int .i64 0, .int .i64 0, .int .i64 0, .int .i64 0, .int .u64 0] 43))
  generalize hwn : ws.length = wn at *
  have HWN := Lib.hid hwn
  clear hws ho hs ks hSS hge hle hwn
  go_enter Tryz.func43, Tryz.ntmps43
  go_upto_region 1 with fail
  generalize w.alloc (.cells #[.int .i64 0, .int .i64 0, .int .i64 0, .int .i64 0, .int .i64 0, .int .u64 0] 43) = w0 at *
  have HR0 := Lib.hid (show w.heap.size < w0.heap.size from HX0.out.lt)
  go_wp2_with fail
  refine (KS.out _).mono ?_
  rintro _ w1 ⟨⟨g, cap, rfl, hrow⟩, hb1⟩
  have HG1 := Lib.hid (World.ownsRow.lt hrow g rfl)
  have HW1 : Hid (RowS w1 w.heap.size (.slice (some ⟨g, 0, none⟩) wn cap) ws) := Lib.hid (World.ownsRow.mono hrow (Nat.le_of_lt HR0.out))
  have HX1 := Lib.hid (HX0.out.keep hb1)
  have HB1 := Lib.hid (grow_to HB0.out hb1)
  clear hrow hb1
  go_wp2
  have HGR := Lib.hid (show g ≠ w.heap.size from by have := HG1.out; have := HR0.out; omega)
  clear HX0 HB0 KS HG1 HR0
  go_loopw [6, 5] (fun iv ov wr => ∃ i : Nat, 1 ≤ i ∧ i ≤ 25 ∧ iv = .int .i64 (i : Int) ∧ ov = .int .i64 ((opLast (ws.getD 0 []) i : Nat) : Int) ∧ RowS wr w.heap.size (.slice (some ⟨g, 0, none⟩) wn cap) ws ∧ Cells wr w.heap.size 43 #[.int .i64 0, .int .i64 0, .int .i64 0, .int .i64 0, .int .i64 0, .int .u64 0] ∧ Below w.heap.size w wr) (fun iv _ _ => 25 - (intOf iv).toNat)
  case atStart => exact ⟨1, Nat.le_refl _, by decide, rfl, by rw [opLast_one]; rfl, HW1.out, HX1.out, HB1.out⟩
  case round =>
    obtain ⟨i, hi1, hi2, rfl, rfl, hW, hX, hB⟩ := hrel
    have HWR := Lib.hid hW
    have HXR := Lib.hid hX
    have HBR := Lib.hid hB
    clear hW hX hB HW1 HX1 HB1
    have p0 : wr.cell? ⟨g, 0, none⟩ = some (.string (strOf (ws.getD 0 []))) := HWR.out.word 0 (by have := HWL.out; have := HWN.out; omega)
    have hn0 : (0 : Int) < wn := by have := HWL.out; omega
    have hn1 : 0 < wn := by have := HWL.out; omega
    by_cases hlt : i < 25
    · have hst : opLast (ws.getD 0 []) (i + 1) = if opText i = ws.getD 0 [] then i else opLast (ws.getD 0 []) i := opLast_succ _ hi1
      have kw : ∀ W, Calls Tryz.prog 59 #[.int .i64 (i : Nat)] W fun e w' => e = .returned (.string (strOf (opText i))) ∧ Below W.heap.size W w' := fun W => by
        have h := rword_any (i : Nat) W
        rw [Int.toNat_natCast, opWord_is hlt] at h
        exact h
      have hcmp : ((strOf (opText i)).toList == (strOf (ws.getD 0 [])).toList) = decide (opText i = ws.getD 0 []) := by
        rw [str_toList, str_toList]
        by_cases h : opText i = ws.getD 0 []
        · rw [decide_eq_true h, beq_iff_eq]; exact h
        · rw [decide_eq_false h, beq_eq_false_iff_ne]; exact h
      have hwi : wrap64 ((i : Int) + 1) = (i : Int) + 1 := by unfold wrap64; omega
      have HLT := Lib.hid (show i + 1 ≤ 25 ∧ i < 25 from ⟨hlt, hlt⟩)
      have HI1 := Lib.hid hi1
      have q0 : ∀ y : BW wr, y.val.cell? ⟨g, 0, none⟩ = some (.string (strOf (ws.getD 0 []))) := fun y => y.cell p0
      have t1 : (i : Int) < 25 := by omega
      generalize hw0 : ws.getD 0 [] = W0 at *
      generalize strOf W0 = S0 at *
      generalize opLast W0 i = ol at *
      have HST := Lib.hid hst
      have HWI := Lib.hid hwi
      clear p0 hst hwi hlt hi1 hi2
      obtain ⟨bq, hbq⟩ : ∃ bq, decide (opText i = W0) = bq := ⟨_, rfl⟩
      rw [hbq] at hcmp
      have HBQ := Lib.hid hbq
      clear hbq
      generalize strOf (opText i) = SW at *
      have KW := Lib.hid kw
      clear kw
      go_upto_region 6 with fail
      refine wp_region_bw (w := wr) (by kernel_rfl) (by kernel_rfl) ?_
      repeat (refine wpQuiet_step (fun K hK => ?_); go_simp; first | (refine hK _ ?_; clear hK K) | (apply Exists.intro; refine ⟨fun _ => ?_, hK _ ?_⟩; (go_at_call 59; exact Calls.quiet_bw (KW.out _)); clear hK K))
      refine wpQuiet_nil ?_
      intro yq
      have HW2 := Lib.hid (HWR.out.keep yq.below)
      have HX2 := Lib.hid (HXR.out.keep yq.below)
      have HB2 := Lib.hid (grow_to HBR.out yq.below)
      generalize yq.val = w2 at *
      clear q0 yq HWR HXR HBR KW
      cases bq
      · have HOL : Hid (opLast W0 (i + 1) = ol) := Lib.hid (by rw [HST.out, if_neg (of_decide_eq_false HBQ.out)])
        go_wp2
        exact ⟨⟨i + 1, by omega, HLT.out.1, by first | exact up_val HWI.out | rfl, by rw [HOL.out], HW2.out, HX2.out, HB2.out⟩, by first | exact up_end HLT.out.2 HWI.out | (have hh := HLT.out; simp [intOf]; omega)⟩
      · have HOL : Hid (opLast W0 (i + 1) = i) := Lib.hid (by rw [HST.out, if_pos (of_decide_eq_true HBQ.out)])
        go_wp2
        exact ⟨⟨i + 1, by omega, HLT.out.1, by first | exact up_val HWI.out | rfl, by rw [HOL.out], HW2.out, HX2.out, HB2.out⟩, by first | exact up_end HLT.out.2 HWI.out | (have hh := HLT.out; simp [intOf]; omega)⟩
    · obtain rfl : i = 25 := by omega
      have t1 : ¬ ((25 : Nat) : Int) < 25 := by omega
      rw [show opLast (ws.getD 0 []) 25 = o from (opLast_end _).trans HOP.out]
      obtain ⟨r, er⟩ : ∃ r : Nat, opRegs (o : Int) = (r : Int) := ⟨(opRegs (o : Int)).toNat, by have := regs_lt (o : Int); omega⟩
      have r3 : r ≤ 3 := by have := regs_lt (o : Int); omega
      have HER := Lib.hid er
      have hom := opMany_eq o r er
      have kh := fun W => rhas0_any (o := o) ho25 W
      rw [er] at kh
      have KH := Lib.hid kh
      have HNK := Lib.hid (nk_not (o : Int))
      have hw1 : wrap64 (1 + (r : Int)) = 1 + (r : Int) := by unfold wrap64; omega
      have hw2 : wrap64 (1 + (r : Int) + 1) = 1 + (r : Int) + 1 := by unfold wrap64; omega
      clear er kh hlt hi1 hi2 p0
      have hmm0 : opMany o = 1 + r + (if opN (o : Int) = true ∨ opK (o : Int) = true then 1 else 0) := hom
      clear hom
      have c0 : wr.cell? ⟨w.heap.size, 0, none⟩ = some (.int .i64 0) := HXR.out.cell (j := 0) rfl
      have c1 : wr.cell? ⟨w.heap.size, 1, none⟩ = some (.int .i64 0) := HXR.out.cell (j := 1) rfl
      have c2 : wr.cell? ⟨w.heap.size, 2, none⟩ = some (.int .i64 0) := HXR.out.cell (j := 2) rfl
      have c3 : wr.cell? ⟨w.heap.size, 3, none⟩ = some (.int .i64 0) := HXR.out.cell (j := 3) rfl
      have c4 : wr.cell? ⟨w.heap.size, 4, none⟩ = some (.int .i64 0) := HXR.out.cell (j := 4) rfl
      have c5 : wr.cell? ⟨w.heap.size, 5, none⟩ = some (.int .u64 0) := HXR.out.cell (j := 5) rfl
      have z0 := HXR.out.fz 0
      have z1 := HXR.out.fz 1
      have z2 := HXR.out.fz 2
      have z3 := HXR.out.fz 3
      have z4 := HXR.out.fz 4
      have z5 := HXR.out.fz 5
      cases hN : opN (o : Int) <;> cases hK : opK (o : Int)
      · have hmm : opMany o = r + 1 := by rw [hmm0, hN, hK]; simp; omega
        have HNN := Lib.hid hN
        have HKK := Lib.hid hK
        rw [hN, hK] at KH
        clear hmm0 hN hK HNK
        have hway : (((o : Int) == 0) = true ∨ (((o : Int) == 0) = false ∧ ((wn : Int) != 1 + (r : Int)) = true)) ∧ ¬ Hits ws o ∨ (((o : Int) == 0) = false ∧ ((wn : Int) != 1 + (r : Int)) = false) ∧ Hits ws o := by
          by_cases h0 : o = 0
          · exact .inl ⟨.inl (by rw [h0]; rfl), fun h => h.1 h0⟩
          · have b0 : ((o : Int) == 0) = false := by rw [beq_eq_false_iff_ne]; omega
            by_cases h2 : wn = opMany o
            · exact .inr ⟨⟨b0, by rw [bne_eq_false_iff_eq]; omega⟩, h0, by rw [HW0.out]; exact HOP.out, by rw [HWN.out]; exact h2⟩
            · exact .inl ⟨.inr ⟨b0, by rw [bne_iff_ne]; omega⟩, fun h => h2 (HWN.out.symm.trans h.2.2)⟩
        have hrw : r + 1 ≤ wn ∨ ¬ (wn = opMany o) := by omega
        rcases hway with ⟨hway, hm⟩ | ⟨⟨b0, b1⟩, hh⟩
        · have HNO := Lib.hid (HMISS.out (by rw [HWS.out]; exact hm))
          clear hm hmm hrw
          rcases hway with b0 | ⟨b0, b1⟩
          all_goals go_wp2_with (go_at_call 47; go_loud (refine (KH.out _).mono ?_); rintro _ w5 ⟨rfl, e5⟩; rw [e5]; clear e5 w5)
          all_goals generalize hW9 : World.setCell _ _ _ = W9
          all_goals exact ret_ins rfl rfl rfl (hW9 ▸ ins_store HXR.out) rfl ⟨ro_fail HNO.out _ _ _ _ _ _, hW9 ▸ ins_below HBR.out (Nat.le_refl _)⟩
        · have HHH := Lib.hid hh
          have hrw2 : r + 1 ≤ wn := by rcases hrw with h | h; exact h; exact absurd (HWN.out.symm.trans hh.2.2) h
          clear hh hmm hrw
          go_upto_region 15 with (go_at_call 47; go_loud (refine (KH.out _).mono ?_); rintro _ w5 ⟨rfl, e5⟩; rw [e5]; clear e5 w5)
          have HI5 := Lib.hid (Cells.new wr 43 #[.int .i64 (o : Nat), .int .i64 0, .int .i64 0, .int .i64 0, .int .i64 0, .int .u64 0])
          have HX5 := Lib.hid (HXR.out.alloc (.cells #[.int .i64 (o : Nat), .int .i64 0, .int .i64 0, .int .i64 0, .int .i64 0, .int .u64 0] 43))
          have HB5 := Lib.hid (HBR.out.alloc HBR.out.size (.cells #[.int .i64 (o : Nat), .int .i64 0, .int .i64 0, .int .i64 0, .int .i64 0, .int .u64 0] 43))
          have HW5 : Hid (RowS (wr.alloc (.cells #[.int .i64 (o : Nat), .int .i64 0, .int .i64 0, .int .i64 0, .int .i64 0, .int .u64 0] 43)) w.heap.size (.slice (some ⟨g, 0, none⟩) wn cap) ws) := Lib.hid (HWR.out.keep ((Below.refl wr.heap.size wr).alloc (Nat.le_refl _) _))
          have HRX := Lib.hid (show w.heap.size < wr.heap.size from HXR.out.lt)
          have HGX := Lib.hid (show g ≠ wr.heap.size from Nat.ne_of_lt (World.ownsRow.lt HWR.out g rfl).2)
          clear HXR HBR HWR KH c0 c1 c2 c3 c4 c5 z0 z1 z2 z3 z4 z5
          generalize wr.alloc (.cells #[.int .i64 (o : Nat), .int .i64 0, .int .i64 0, .int .i64 0, .int .i64 0, .int .u64 0] 43) = w3 at *
          generalize wr.heap.size = GX at *
          clear wr
          go_upto_region 16 with fail
          have HL6 := Lib.hid (Cells.new w3 76 #[.int .i64 0, .int .i64 0, .int .i64 0])
          have HI6 := Lib.hid (HI5.out.alloc (.cells #[.int .i64 0, .int .i64 0, .int .i64 0] 76))
          have HX6 := Lib.hid (HX5.out.alloc (.cells #[.int .i64 0, .int .i64 0, .int .i64 0] 76))
          have HB6 := Lib.hid (HB5.out.alloc HB5.out.size (.cells #[.int .i64 0, .int .i64 0, .int .i64 0] 76))
          have HW6 : Hid (RowS (w3.alloc (.cells #[.int .i64 0, .int .i64 0, .int .i64 0] 76)) w.heap.size (.slice (some ⟨g, 0, none⟩) wn cap) ws) := Lib.hid (HW5.out.keep ((Below.refl w3.heap.size w3).alloc (Nat.le_refl _) _))
          have HNA := Lib.hid (show GX < w3.heap.size ∧ w.heap.size < w3.heap.size ∧ g < w3.heap.size ∧ GX ≠ w.heap.size from ⟨HI5.out.lt, HX5.out.lt, (World.ownsRow.lt HW5.out g rfl).2, Nat.ne_of_gt HRX.out⟩)
          clear HI5 HX5 HB5 HW5
          generalize w3.alloc (.cells #[.int .i64 0, .int .i64 0, .int .i64 0] 76) = w6 at *
          generalize w3.heap.size = AR at *
          clear w3
          go_wp2
          go_loopw [13] (fun iv wx => ∃ i : Nat, i ≤ r ∧ iv = .int .i64 (i : Int) ∧ (∀ j : Nat, j < i → (regOf (ws.getD (1 + j) [])).isSome = true) ∧ Cells wx AR 76 #[.int .i64 (regX ws i 0 : Nat), .int .i64 (regX ws i 1 : Nat), .int .i64 (regX ws i 2 : Nat)] ∧ Turns [AR] w6 wx) (fun iv _ => r - (intOf iv).toNat)
          case atStart => exact ⟨0, Nat.zero_le _, rfl, fun j hj => absurd hj (by omega), by rw [regX_zero3]; exact HL6.out, Turns.refl _ _⟩
          case round =>
            obtain ⟨i, hi, rfl, hj, hL, hT⟩ := hrel
            have HLX := Lib.hid hL
            have HTX := Lib.hid hT
            have HJ := Lib.hid hj
            clear hL hT hj HL6
            have HWX : Hid (RowS wr w.heap.size (.slice (some ⟨g, 0, none⟩) wn cap) ws) := Lib.hid (row_turns HW6.out HTX.out (fun k hk => by cases hk; simp; exact Nat.ne_of_lt HNA.out.2.2.1))
            have HX7 := Lib.hid (HX6.out.turns HTX.out (by simp; exact Nat.ne_of_lt HNA.out.2.1))
            have HI7 := Lib.hid (HI6.out.turns HTX.out (by simp; exact Nat.ne_of_lt HNA.out.1))
            have HB7 := Lib.hid (HB6.out.trans (HTX.out.below HB6.out.size (by simp; exact Nat.le_of_lt HNA.out.2.1)))
            by_cases hlt2 : i < r
            · have h3i : i < 3 := by omega
              have l1 : wr.cell? ⟨g, 1 + i, none⟩ = some (.string (strOf (ws.getD (1 + i) []))) := HWX.out.word (1 + i) (by rw [HWN.out]; omega)
              have i2 : (0 : Int) ≤ i := by omega
              have i3 : (i : Int) < r := by omega
              have i9 : (i : Int) < 3 := by omega
              have i7 : (0 : Int) ≤ 1 + (i : Int) := by omega
              have i8 : 1 + (i : Int) < wn := by omega
              have hwi : wrap64 ((i : Int) + 1) = (i : Int) + 1 := by unfold wrap64; omega
              have hwj : wrap64 (1 + (i : Int)) = 1 + (i : Int) := by unfold wrap64; omega
              have hna : (1 + (i : Int)).toNat = 1 + i := by omega
              have HLI := Lib.hid (show i < r ∧ i < 3 from ⟨hlt2, h3i⟩)
              clear hlt2 h3i hi r3 hw1 hw2 hrw2 b0 b1 ho25 hn0 t1
              cases hr : regOf (ws.getD (1 + i) []) with
              | some u =>
                obtain ⟨d, hd, d1, d2, hu⟩ := reg_word hr
                have HU := Lib.hid (show regU ws i = u from by unfold regU; rw [hr]; rfl)
                have HJ2 : Hid (∀ j : Nat, j < i + 1 → (regOf (ws.getD (1 + j) [])).isSome = true) := Lib.hid fun j hj => by
                  rcases Nat.lt_or_ge j i with h | h
                  · exact HJ.out j h
                  · obtain rfl : j = i := by omega
                    rw [hr]; rfl
                rw [hd] at l1
                have n0 : ∀ W, (Instr.index 9 (.string (strOf [114, d])) (.int .i64 0)).run Tryz.prog W = .ok (.int .u8 114) W := fun W => (word_two 114 d W).1
                have n1 := fun W => (word_two 114 d W).2
                have n2 : ((strOf [114, d]).size : Int) = 2 := rfl
                have n4 : ¬ (((d.toNat : Nat) : Int) < 48) := by omega
                have n5 : ¬ ((55 : Int) < ((d.toNat : Nat) : Int)) := by omega
                have n6 : IntKind.u8.wrap (((d.toNat : Nat) : Int) - 48) = ((u : Nat) : Int) := by rw [IntKind.wrap_u8]; omega
                have n7 : wrap64 ((u : Nat) : Int) = ((u : Nat) : Int) := by unfold wrap64; omega
                obtain ⟨v1, c1⟩ := cell3 HLX.out i HLI.out.2
                have z1 := HLX.out.fz i
                have HL8 := Lib.hid (show Cells (wr.setCell ⟨AR, i, none⟩ (.int .i64 (u : Nat))) AR 76 #[.int .i64 (regX ws (i + 1) 0 : Nat), .int .i64 (regX ws (i + 1) 1 : Nat), .int .i64 (regX ws (i + 1) 2 : Nat)] from by have := HLX.out.set i (.int .i64 (u : Nat)); rw [regX_set3 ws i HLI.out.2 u HU.out] at this; exact this)
                have HT8 := Lib.hid (HTX.out.set (p := ⟨AR, i, none⟩) (.inl (by simp)) (.int .i64 (u : Nat)))
                clear hr hd d1 d2 hu HLX HTX HJ
                generalize strOf [114, d] = Sd at *
                generalize d.toNat = dn at *
                go_wp2
                exact ⟨⟨i + 1, HLI.out.1, by first | exact up_val hwi | rfl, HJ2.out, HL8.out, HT8.out⟩, by first | exact up_end HLI.out.1 hwi | (have hh := HLI.out; simp [intOf]; omega)⟩
              | none =>
                have HNO := Lib.hid (read_reg (s := s) (o := o) (r := r) (i := i) (by rw [HWS.out]; exact HHH.out) HER.out (by have := regs_lt (o : Int); have := HER.out; omega) HLI.out.1 (by rw [HWS.out]; exact hr))
                have c0 : wr.cell? ⟨w.heap.size, 0, none⟩ = some (.int .i64 0) := HX7.out.cell (j := 0) rfl
                have c1 : wr.cell? ⟨w.heap.size, 1, none⟩ = some (.int .i64 0) := HX7.out.cell (j := 1) rfl
                have c2 : wr.cell? ⟨w.heap.size, 2, none⟩ = some (.int .i64 0) := HX7.out.cell (j := 2) rfl
                have c3 : wr.cell? ⟨w.heap.size, 3, none⟩ = some (.int .i64 0) := HX7.out.cell (j := 3) rfl
                have c4 : wr.cell? ⟨w.heap.size, 4, none⟩ = some (.int .i64 0) := HX7.out.cell (j := 4) rfl
                have c5 : wr.cell? ⟨w.heap.size, 5, none⟩ = some (.int .u64 0) := HX7.out.cell (j := 5) rfl
                have z0 := HX7.out.fz 0
                have z1 := HX7.out.fz 1
                have z2 := HX7.out.fz 2
                have z3 := HX7.out.fz 3
                have z4 := HX7.out.fz 4
                have z5 := HX7.out.fz 5
                rcases reg_none hr with hl2 | ⟨a, d, hd, ha | ⟨ha, hd2⟩ | ⟨ha, hd2, hd3⟩⟩
                · have n2 : (((strOf (ws.getD (1 + i) [])).size : Int) != 2) = true := by rw [bne_iff_ne, str_len]; omega
                  clear hr hl2 HTX HJ HLX
                  generalize strOf (ws.getD (1 + i) []) = Sd at *
                  go_wp2
                  generalize hW9 : World.setCell _ _ _ = W9
                  exact ret_ins rfl rfl rfl (hW9 ▸ ins_store HX7.out) rfl ⟨ro_fail HNO.out _ _ _ _ _ _, hW9 ▸ ins_below HB7.out (Nat.le_refl _)⟩
                · skip
                  rw [hd] at l1
                  have n0 := fun W => (word_two a d W).1
                  have n3 : (((a.toNat : Nat) : Int) != 114) = true := by rw [bne_iff_ne]; intro e; exact ha (UInt8.toNat_inj.1 (by show a.toNat = 114; omega))
                  clear ha
                  have n1 := fun W => (word_two a d W).2
                  have n2 : ((strOf [a, d]).size : Int) = 2 := rfl
                  clear hr hd HTX HJ HLX
                  generalize strOf [a, d] = Sd at *
                  generalize a.toNat = an at *
                  generalize d.toNat = dn at *
                  go_wp2
                  generalize hW9 : World.setCell _ _ _ = W9
                  exact ret_ins rfl rfl rfl (hW9 ▸ ins_store HX7.out) rfl ⟨ro_fail HNO.out _ _ _ _ _ _, hW9 ▸ ins_below HB7.out (Nat.le_refl _)⟩
                · subst ha
                  rw [hd] at l1
                  have n0 : ∀ W, (Instr.index 9 (.string (strOf [114, d])) (.int .i64 0)).run Tryz.prog W = .ok (.int .u8 114) W := fun W => (word_two 114 d W).1
                  have n1 := fun W => (word_two 114 d W).2
                  have n2 : ((strOf [114, d]).size : Int) = 2 := rfl
                  have n4 : (((d.toNat : Nat) : Int) < 48) := by omega
                  clear hd2
                  clear hr hd HTX HJ HLX
                  generalize strOf [114, d] = Sd at *
                  generalize d.toNat = dn at *
                  go_wp2
                  generalize hW9 : World.setCell _ _ _ = W9
                  exact ret_ins rfl rfl rfl (hW9 ▸ ins_store HX7.out) rfl ⟨ro_fail HNO.out _ _ _ _ _ _, hW9 ▸ ins_below HB7.out (Nat.le_refl _)⟩
                · subst ha
                  rw [hd] at l1
                  have n0 : ∀ W, (Instr.index 9 (.string (strOf [114, d])) (.int .i64 0)).run Tryz.prog W = .ok (.int .u8 114) W := fun W => (word_two 114 d W).1
                  have n1 := fun W => (word_two 114 d W).2
                  have n2 : ((strOf [114, d]).size : Int) = 2 := rfl
                  have n4 : ¬ (((d.toNat : Nat) : Int) < 48) := by omega
                  have n5 : ((55 : Int) < ((d.toNat : Nat) : Int)) := by omega
                  clear hd2 hd3
                  clear hr hd HTX HJ HLX
                  generalize strOf [114, d] = Sd at *
                  generalize d.toNat = dn at *
                  go_wp2
                  generalize hW9 : World.setCell _ _ _ = W9
                  exact ret_ins rfl rfl rfl (hW9 ▸ ins_store HX7.out) rfl ⟨ro_fail HNO.out _ _ _ _ _ _, hW9 ▸ ins_below HB7.out (Nat.le_refl _)⟩
            · obtain rfl : i = r := by omega
              have i3 : ¬ (i : Int) < i := by omega
              have HRA := Lib.hid (read_all (s := s) (o := o) (r := i) (by rw [HWS.out]; exact HHH.out) HER.out (by rw [HWS.out]; exact HJ.out))
              rw [HWS.out] at HRA
              have a0 : wr.cell? ⟨AR, 0, none⟩ = some (.int .i64 (regX ws i 0 : Nat)) := HLX.out.cell (j := 0) rfl
              have a1 : wr.cell? ⟨AR, 1, none⟩ = some (.int .i64 (regX ws i 1 : Nat)) := HLX.out.cell (j := 1) rfl
              have a2 : wr.cell? ⟨AR, 2, none⟩ = some (.int .i64 (regX ws i 2 : Nat)) := HLX.out.cell (j := 2) rfl
              have b0 : (wr.setCell ⟨GX, 1, none⟩ (.int .i64 (regX ws i 0 : Nat))).cell? ⟨AR, 1, none⟩ = some (.int .i64 (regX ws i 1 : Nat)) := (HLX.out.far (a := ⟨GX, 1, none⟩) (Nat.ne_of_gt HNA.out.1) (.int .i64 (regX ws i 0 : Nat))).cell (j := 1) rfl
              have b1 : (wr.setCell ⟨GX, 1, none⟩ (.int .i64 (regX ws i 0 : Nat))).cell? ⟨AR, 2, none⟩ = some (.int .i64 (regX ws i 2 : Nat)) := (HLX.out.far (a := ⟨GX, 1, none⟩) (Nat.ne_of_gt HNA.out.1) (.int .i64 (regX ws i 0 : Nat))).cell (j := 2) rfl
              have b2 : ((wr.setCell ⟨GX, 1, none⟩ (.int .i64 (regX ws i 0 : Nat))).setCell ⟨GX, 2, none⟩ (.int .i64 (regX ws i 1 : Nat))).cell? ⟨AR, 2, none⟩ = some (.int .i64 (regX ws i 2 : Nat)) := ((HLX.out.far (a := ⟨GX, 1, none⟩) (Nat.ne_of_gt HNA.out.1) (.int .i64 (regX ws i 0 : Nat))).far (a := ⟨GX, 2, none⟩) (Nat.ne_of_gt HNA.out.1) (.int .i64 (regX ws i 1 : Nat))).cell (j := 2) rfl
              have x1 : wr.cell? ⟨GX, 1, none⟩ = some (.int .i64 0) := HI7.out.cell (j := 1) rfl
              have x2 : wr.cell? ⟨GX, 2, none⟩ = some (.int .i64 0) := HI7.out.cell (j := 2) rfl
              have x3 : wr.cell? ⟨GX, 3, none⟩ = some (.int .i64 0) := HI7.out.cell (j := 3) rfl
              have f1 := HI7.out.fz 1
              have f2 := HI7.out.fz 2
              have f3 := HI7.out.fz 3
              have HI8 := Lib.hid (((HI7.out.set 1 (.int .i64 (regX ws i 0 : Nat))).set 2 (.int .i64 (regX ws i 1 : Nat))).set 3 (.int .i64 (regX ws i 2 : Nat)))
              have HX8 := Lib.hid (((HX7.out.far (a := ⟨GX, 1, none⟩) HNA.out.2.2.2.symm (.int .i64 (regX ws i 0 : Nat))).far (a := ⟨GX, 2, none⟩) HNA.out.2.2.2.symm (.int .i64 (regX ws i 1 : Nat))).far (a := ⟨GX, 3, none⟩) HNA.out.2.2.2.symm (.int .i64 (regX ws i 2 : Nat)))
              have HB8 := Lib.hid (((HB7.out.setCell (p := ⟨GX, 1, none⟩) (Nat.le_of_lt HRX.out) (.int .i64 (regX ws i 0 : Nat))).setCell (p := ⟨GX, 2, none⟩) (Nat.le_of_lt HRX.out) (.int .i64 (regX ws i 1 : Nat))).setCell (p := ⟨GX, 3, none⟩) (Nat.le_of_lt HRX.out) (.int .i64 (regX ws i 2 : Nat)))
              have HTW : Hid (Turns [GX] wr (((wr.setCell ⟨GX, 1, none⟩ (.int .i64 (regX ws i 0 : Nat))).setCell ⟨GX, 2, none⟩ (.int .i64 (regX ws i 1 : Nat))).setCell ⟨GX, 3, none⟩ (.int .i64 (regX ws i 2 : Nat)))) := Lib.hid ((((Turns.refl _ wr).set (p := ⟨GX, 1, none⟩) (.inl (by simp)) _).set (p := ⟨GX, 2, none⟩) (.inl (by simp)) _).set (p := ⟨GX, 3, none⟩) (.inl (by simp)) _)
              have HW8 : Hid (RowS (((wr.setCell ⟨GX, 1, none⟩ (.int .i64 (regX ws i 0 : Nat))).setCell ⟨GX, 2, none⟩ (.int .i64 (regX ws i 1 : Nat))).setCell ⟨GX, 3, none⟩ (.int .i64 (regX ws i 2 : Nat))) w.heap.size (.slice (some ⟨g, 0, none⟩) wn cap) ws) := Lib.hid (row_turns HWX.out HTW.out (fun k hk => by cases hk; simpa using HGX.out))
              generalize (regX ws i 0 : Nat) = ra at *
              generalize (regX ws i 1 : Nat) = rb at *
              generalize (regX ws i 2 : Nat) = rc at *
              clear HJ HTX hi hlt2 HTW HWX HX7 HI7 HB7 HI6 HX6 HB6 HW6 HLX
              go_upto_region 23 with fail
              go_region
              clear a0 a1 a2 x1 x2 x3 f1 f2 f3 b0 b1 b2
              replace HI8 := Lib.hid (Cells.drew HI8.out)
              replace HX8 := Lib.hid (Cells.drew HX8.out)
              replace HB8 := Lib.hid (Below.drew HB8.out)
              replace HW8 := Lib.hid (World.ownsRow.drew HW8.out)
              generalize hw8 : World.drew _ = w8
              rw [hw8] at HI8 HX8 HB8 HW8
              replace HW8 : Hid (RowS w8 w.heap.size (.slice (some ⟨g, 0, none⟩) wn cap) ws) := HW8
              clear hw8
              have HI9 : Hid (Cells w8 GX 43 #[(.int .i64 (o : Nat)), (.int .i64 (ra : Nat)), (.int .i64 (rb : Nat)), (.int .i64 (rc : Nat)), .int .i64 0, .int .u64 0]) := HI8
              have d0 : w8.cell? ⟨GX, 0, none⟩ = some (.int .i64 (o : Nat)) := HI9.out.cell (j := 0) rfl
              have d1 : w8.cell? ⟨GX, 1, none⟩ = some (.int .i64 (ra : Nat)) := HI9.out.cell (j := 1) rfl
              have d2 : w8.cell? ⟨GX, 2, none⟩ = some (.int .i64 (rb : Nat)) := HI9.out.cell (j := 2) rfl
              have d3 : w8.cell? ⟨GX, 3, none⟩ = some (.int .i64 (rc : Nat)) := HI9.out.cell (j := 3) rfl
              have d4 : w8.cell? ⟨GX, 4, none⟩ = some (.int .i64 0) := HI9.out.cell (j := 4) rfl
              have d5 : w8.cell? ⟨GX, 5, none⟩ = some (.int .u64 0) := HI9.out.cell (j := 5) rfl
              have c0 : w8.cell? ⟨w.heap.size, 0, none⟩ = some (.int .i64 0) := HX8.out.cell (j := 0) rfl
              have c1 : w8.cell? ⟨w.heap.size, 1, none⟩ = some (.int .i64 0) := HX8.out.cell (j := 1) rfl
              have c2 : w8.cell? ⟨w.heap.size, 2, none⟩ = some (.int .i64 0) := HX8.out.cell (j := 2) rfl
              have c3 : w8.cell? ⟨w.heap.size, 3, none⟩ = some (.int .i64 0) := HX8.out.cell (j := 3) rfl
              have c4 : w8.cell? ⟨w.heap.size, 4, none⟩ = some (.int .i64 0) := HX8.out.cell (j := 4) rfl
              have c5 : w8.cell? ⟨w.heap.size, 5, none⟩ = some (.int .u64 0) := HX8.out.cell (j := 5) rfl
              have z0 := HX8.out.fz 0
              have z1 := HX8.out.fz 1
              have z2 := HX8.out.fz 2
              have z3 := HX8.out.fz 3
              have z4 := HX8.out.fz 4
              have z5 := HX8.out.fz 5
              have HEND : Hid (true = (readIns s).isSome ∧ ∀ y, readIns s = some y → (⟨(o : Nat), (ra : Nat), (rb : Nat), (rc : Nat), 0, 0⟩ : Ins) = y) := Lib.hid (by rw [HRA.out]; unfold readTail; rw [HNN.out, HKK.out]; exact ⟨rfl, fun y hy => by injection hy⟩)
              clear r3 hw1 hw2 hrw2 HI8
              go_wp2
              generalize hW9 : World.setCell _ _ _ = W9
              exact ret_ins rfl rfl rfl (hW9 ▸ ins_store HX8.out) rfl ⟨ro_done HEND.out.1 HEND.out.2, hW9 ▸ ins_below HB8.out (Nat.le_refl _)⟩
      · have hmm : opMany o = r + 2 := by rw [hmm0, hN, hK]; simp; omega
        have HNN := Lib.hid hN
        have HKK := Lib.hid hK
        rw [hN, hK] at KH
        clear hmm0 hN hK HNK
        have hway : (((o : Int) == 0) = true ∨ (((o : Int) == 0) = false ∧ ((wn : Int) != 1 + (r : Int) + 1) = true)) ∧ ¬ Hits ws o ∨ (((o : Int) == 0) = false ∧ ((wn : Int) != 1 + (r : Int) + 1) = false) ∧ Hits ws o := by
          by_cases h0 : o = 0
          · exact .inl ⟨.inl (by rw [h0]; rfl), fun h => h.1 h0⟩
          · have b0 : ((o : Int) == 0) = false := by rw [beq_eq_false_iff_ne]; omega
            by_cases h2 : wn = opMany o
            · exact .inr ⟨⟨b0, by rw [bne_eq_false_iff_eq]; omega⟩, h0, by rw [HW0.out]; exact HOP.out, by rw [HWN.out]; exact h2⟩
            · exact .inl ⟨.inr ⟨b0, by rw [bne_iff_ne]; omega⟩, fun h => h2 (HWN.out.symm.trans h.2.2)⟩
        have hrw : r + 1 ≤ wn ∨ ¬ (wn = opMany o) := by omega
        rcases hway with ⟨hway, hm⟩ | ⟨⟨b0, b1⟩, hh⟩
        · have HNO := Lib.hid (HMISS.out (by rw [HWS.out]; exact hm))
          clear hm hmm hrw
          rcases hway with b0 | ⟨b0, b1⟩
          all_goals go_wp2_with (go_at_call 47; go_loud (refine (KH.out _).mono ?_); rintro _ w5 ⟨rfl, e5⟩; rw [e5]; clear e5 w5)
          all_goals generalize hW9 : World.setCell _ _ _ = W9
          all_goals exact ret_ins rfl rfl rfl (hW9 ▸ ins_store HXR.out) rfl ⟨ro_fail HNO.out _ _ _ _ _ _, hW9 ▸ ins_below HBR.out (Nat.le_refl _)⟩
        · have HHH := Lib.hid hh
          have hrw2 : r + 1 ≤ wn := by rcases hrw with h | h; exact h; exact absurd (HWN.out.symm.trans hh.2.2) h
          have hrw3 : r + 2 ≤ wn := by have := HWN.out.symm.trans hh.2.2; omega
          clear hh hmm hrw
          go_upto_region 15 with (go_at_call 47; go_loud (refine (KH.out _).mono ?_); rintro _ w5 ⟨rfl, e5⟩; rw [e5]; clear e5 w5)
          have HI5 := Lib.hid (Cells.new wr 43 #[.int .i64 (o : Nat), .int .i64 0, .int .i64 0, .int .i64 0, .int .i64 0, .int .u64 0])
          have HX5 := Lib.hid (HXR.out.alloc (.cells #[.int .i64 (o : Nat), .int .i64 0, .int .i64 0, .int .i64 0, .int .i64 0, .int .u64 0] 43))
          have HB5 := Lib.hid (HBR.out.alloc HBR.out.size (.cells #[.int .i64 (o : Nat), .int .i64 0, .int .i64 0, .int .i64 0, .int .i64 0, .int .u64 0] 43))
          have HW5 : Hid (RowS (wr.alloc (.cells #[.int .i64 (o : Nat), .int .i64 0, .int .i64 0, .int .i64 0, .int .i64 0, .int .u64 0] 43)) w.heap.size (.slice (some ⟨g, 0, none⟩) wn cap) ws) := Lib.hid (HWR.out.keep ((Below.refl wr.heap.size wr).alloc (Nat.le_refl _) _))
          have HRX := Lib.hid (show w.heap.size < wr.heap.size from HXR.out.lt)
          have HGX := Lib.hid (show g ≠ wr.heap.size from Nat.ne_of_lt (World.ownsRow.lt HWR.out g rfl).2)
          clear HXR HBR HWR KH c0 c1 c2 c3 c4 c5 z0 z1 z2 z3 z4 z5
          generalize wr.alloc (.cells #[.int .i64 (o : Nat), .int .i64 0, .int .i64 0, .int .i64 0, .int .i64 0, .int .u64 0] 43) = w3 at *
          generalize wr.heap.size = GX at *
          clear wr
          go_upto_region 16 with fail
          have HL6 := Lib.hid (Cells.new w3 76 #[.int .i64 0, .int .i64 0, .int .i64 0])
          have HI6 := Lib.hid (HI5.out.alloc (.cells #[.int .i64 0, .int .i64 0, .int .i64 0] 76))
          have HX6 := Lib.hid (HX5.out.alloc (.cells #[.int .i64 0, .int .i64 0, .int .i64 0] 76))
          have HB6 := Lib.hid (HB5.out.alloc HB5.out.size (.cells #[.int .i64 0, .int .i64 0, .int .i64 0] 76))
          have HW6 : Hid (RowS (w3.alloc (.cells #[.int .i64 0, .int .i64 0, .int .i64 0] 76)) w.heap.size (.slice (some ⟨g, 0, none⟩) wn cap) ws) := Lib.hid (HW5.out.keep ((Below.refl w3.heap.size w3).alloc (Nat.le_refl _) _))
          have HNA := Lib.hid (show GX < w3.heap.size ∧ w.heap.size < w3.heap.size ∧ g < w3.heap.size ∧ GX ≠ w.heap.size from ⟨HI5.out.lt, HX5.out.lt, (World.ownsRow.lt HW5.out g rfl).2, Nat.ne_of_gt HRX.out⟩)
          clear HI5 HX5 HB5 HW5
          generalize w3.alloc (.cells #[.int .i64 0, .int .i64 0, .int .i64 0] 76) = w6 at *
          generalize w3.heap.size = AR at *
          clear w3
          go_wp2
          go_loopw [13] (fun iv wx => ∃ i : Nat, i ≤ r ∧ iv = .int .i64 (i : Int) ∧ (∀ j : Nat, j < i → (regOf (ws.getD (1 + j) [])).isSome = true) ∧ Cells wx AR 76 #[.int .i64 (regX ws i 0 : Nat), .int .i64 (regX ws i 1 : Nat), .int .i64 (regX ws i 2 : Nat)] ∧ Turns [AR] w6 wx) (fun iv _ => r - (intOf iv).toNat)
          case atStart => exact ⟨0, Nat.zero_le _, rfl, fun j hj => absurd hj (by omega), by rw [regX_zero3]; exact HL6.out, Turns.refl _ _⟩
          case round =>
            obtain ⟨i, hi, rfl, hj, hL, hT⟩ := hrel
            have HLX := Lib.hid hL
            have HTX := Lib.hid hT
            have HJ := Lib.hid hj
            clear hL hT hj HL6
            have HWX : Hid (RowS wr w.heap.size (.slice (some ⟨g, 0, none⟩) wn cap) ws) := Lib.hid (row_turns HW6.out HTX.out (fun k hk => by cases hk; simp; exact Nat.ne_of_lt HNA.out.2.2.1))
            have HX7 := Lib.hid (HX6.out.turns HTX.out (by simp; exact Nat.ne_of_lt HNA.out.2.1))
            have HI7 := Lib.hid (HI6.out.turns HTX.out (by simp; exact Nat.ne_of_lt HNA.out.1))
            have HB7 := Lib.hid (HB6.out.trans (HTX.out.below HB6.out.size (by simp; exact Nat.le_of_lt HNA.out.2.1)))
            by_cases hlt2 : i < r
            · have h3i : i < 3 := by omega
              have l1 : wr.cell? ⟨g, 1 + i, none⟩ = some (.string (strOf (ws.getD (1 + i) []))) := HWX.out.word (1 + i) (by rw [HWN.out]; omega)
              have i2 : (0 : Int) ≤ i := by omega
              have i3 : (i : Int) < r := by omega
              have i9 : (i : Int) < 3 := by omega
              have i7 : (0 : Int) ≤ 1 + (i : Int) := by omega
              have i8 : 1 + (i : Int) < wn := by omega
              have hwi : wrap64 ((i : Int) + 1) = (i : Int) + 1 := by unfold wrap64; omega
              have hwj : wrap64 (1 + (i : Int)) = 1 + (i : Int) := by unfold wrap64; omega
              have hna : (1 + (i : Int)).toNat = 1 + i := by omega
              have HLI := Lib.hid (show i < r ∧ i < 3 from ⟨hlt2, h3i⟩)
              clear hlt2 h3i hi r3 hw1 hw2 hrw2 b0 b1 ho25 hn0 t1 hrw3
              cases hr : regOf (ws.getD (1 + i) []) with
              | some u =>
                obtain ⟨d, hd, d1, d2, hu⟩ := reg_word hr
                have HU := Lib.hid (show regU ws i = u from by unfold regU; rw [hr]; rfl)
                have HJ2 : Hid (∀ j : Nat, j < i + 1 → (regOf (ws.getD (1 + j) [])).isSome = true) := Lib.hid fun j hj => by
                  rcases Nat.lt_or_ge j i with h | h
                  · exact HJ.out j h
                  · obtain rfl : j = i := by omega
                    rw [hr]; rfl
                rw [hd] at l1
                have n0 : ∀ W, (Instr.index 9 (.string (strOf [114, d])) (.int .i64 0)).run Tryz.prog W = .ok (.int .u8 114) W := fun W => (word_two 114 d W).1
                have n1 := fun W => (word_two 114 d W).2
                have n2 : ((strOf [114, d]).size : Int) = 2 := rfl
                have n4 : ¬ (((d.toNat : Nat) : Int) < 48) := by omega
                have n5 : ¬ ((55 : Int) < ((d.toNat : Nat) : Int)) := by omega
                have n6 : IntKind.u8.wrap (((d.toNat : Nat) : Int) - 48) = ((u : Nat) : Int) := by rw [IntKind.wrap_u8]; omega
                have n7 : wrap64 ((u : Nat) : Int) = ((u : Nat) : Int) := by unfold wrap64; omega
                obtain ⟨v1, c1⟩ := cell3 HLX.out i HLI.out.2
                have z1 := HLX.out.fz i
                have HL8 := Lib.hid (show Cells (wr.setCell ⟨AR, i, none⟩ (.int .i64 (u : Nat))) AR 76 #[.int .i64 (regX ws (i + 1) 0 : Nat), .int .i64 (regX ws (i + 1) 1 : Nat), .int .i64 (regX ws (i + 1) 2 : Nat)] from by have := HLX.out.set i (.int .i64 (u : Nat)); rw [regX_set3 ws i HLI.out.2 u HU.out] at this; exact this)
                have HT8 := Lib.hid (HTX.out.set (p := ⟨AR, i, none⟩) (.inl (by simp)) (.int .i64 (u : Nat)))
                clear hr hd d1 d2 hu HLX HTX HJ
                generalize strOf [114, d] = Sd at *
                generalize d.toNat = dn at *
                go_wp2
                exact ⟨⟨i + 1, HLI.out.1, by first | exact up_val hwi | rfl, HJ2.out, HL8.out, HT8.out⟩, by first | exact up_end HLI.out.1 hwi | (have hh := HLI.out; simp [intOf]; omega)⟩
              | none =>
                have HNO := Lib.hid (read_reg (s := s) (o := o) (r := r) (i := i) (by rw [HWS.out]; exact HHH.out) HER.out (by have := regs_lt (o : Int); have := HER.out; omega) HLI.out.1 (by rw [HWS.out]; exact hr))
                have c0 : wr.cell? ⟨w.heap.size, 0, none⟩ = some (.int .i64 0) := HX7.out.cell (j := 0) rfl
                have c1 : wr.cell? ⟨w.heap.size, 1, none⟩ = some (.int .i64 0) := HX7.out.cell (j := 1) rfl
                have c2 : wr.cell? ⟨w.heap.size, 2, none⟩ = some (.int .i64 0) := HX7.out.cell (j := 2) rfl
                have c3 : wr.cell? ⟨w.heap.size, 3, none⟩ = some (.int .i64 0) := HX7.out.cell (j := 3) rfl
                have c4 : wr.cell? ⟨w.heap.size, 4, none⟩ = some (.int .i64 0) := HX7.out.cell (j := 4) rfl
                have c5 : wr.cell? ⟨w.heap.size, 5, none⟩ = some (.int .u64 0) := HX7.out.cell (j := 5) rfl
                have z0 := HX7.out.fz 0
                have z1 := HX7.out.fz 1
                have z2 := HX7.out.fz 2
                have z3 := HX7.out.fz 3
                have z4 := HX7.out.fz 4
                have z5 := HX7.out.fz 5
                rcases reg_none hr with hl2 | ⟨a, d, hd, ha | ⟨ha, hd2⟩ | ⟨ha, hd2, hd3⟩⟩
                · have n2 : (((strOf (ws.getD (1 + i) [])).size : Int) != 2) = true := by rw [bne_iff_ne, str_len]; omega
                  clear hr hl2 HTX HJ HLX
                  generalize strOf (ws.getD (1 + i) []) = Sd at *
                  go_wp2
                  generalize hW9 : World.setCell _ _ _ = W9
                  exact ret_ins rfl rfl rfl (hW9 ▸ ins_store HX7.out) rfl ⟨ro_fail HNO.out _ _ _ _ _ _, hW9 ▸ ins_below HB7.out (Nat.le_refl _)⟩
                · skip
                  rw [hd] at l1
                  have n0 := fun W => (word_two a d W).1
                  have n3 : (((a.toNat : Nat) : Int) != 114) = true := by rw [bne_iff_ne]; intro e; exact ha (UInt8.toNat_inj.1 (by show a.toNat = 114; omega))
                  clear ha
                  have n1 := fun W => (word_two a d W).2
                  have n2 : ((strOf [a, d]).size : Int) = 2 := rfl
                  clear hr hd HTX HJ HLX
                  generalize strOf [a, d] = Sd at *
                  generalize a.toNat = an at *
                  generalize d.toNat = dn at *
                  go_wp2
                  generalize hW9 : World.setCell _ _ _ = W9
                  exact ret_ins rfl rfl rfl (hW9 ▸ ins_store HX7.out) rfl ⟨ro_fail HNO.out _ _ _ _ _ _, hW9 ▸ ins_below HB7.out (Nat.le_refl _)⟩
                · subst ha
                  rw [hd] at l1
                  have n0 : ∀ W, (Instr.index 9 (.string (strOf [114, d])) (.int .i64 0)).run Tryz.prog W = .ok (.int .u8 114) W := fun W => (word_two 114 d W).1
                  have n1 := fun W => (word_two 114 d W).2
                  have n2 : ((strOf [114, d]).size : Int) = 2 := rfl
                  have n4 : (((d.toNat : Nat) : Int) < 48) := by omega
                  clear hd2
                  clear hr hd HTX HJ HLX
                  generalize strOf [114, d] = Sd at *
                  generalize d.toNat = dn at *
                  go_wp2
                  generalize hW9 : World.setCell _ _ _ = W9
                  exact ret_ins rfl rfl rfl (hW9 ▸ ins_store HX7.out) rfl ⟨ro_fail HNO.out _ _ _ _ _ _, hW9 ▸ ins_below HB7.out (Nat.le_refl _)⟩
                · subst ha
                  rw [hd] at l1
                  have n0 : ∀ W, (Instr.index 9 (.string (strOf [114, d])) (.int .i64 0)).run Tryz.prog W = .ok (.int .u8 114) W := fun W => (word_two 114 d W).1
                  have n1 := fun W => (word_two 114 d W).2
                  have n2 : ((strOf [114, d]).size : Int) = 2 := rfl
                  have n4 : ¬ (((d.toNat : Nat) : Int) < 48) := by omega
                  have n5 : ((55 : Int) < ((d.toNat : Nat) : Int)) := by omega
                  clear hd2 hd3
                  clear hr hd HTX HJ HLX
                  generalize strOf [114, d] = Sd at *
                  generalize d.toNat = dn at *
                  go_wp2
                  generalize hW9 : World.setCell _ _ _ = W9
                  exact ret_ins rfl rfl rfl (hW9 ▸ ins_store HX7.out) rfl ⟨ro_fail HNO.out _ _ _ _ _ _, hW9 ▸ ins_below HB7.out (Nat.le_refl _)⟩
            · obtain rfl : i = r := by omega
              have i3 : ¬ (i : Int) < i := by omega
              have HRA := Lib.hid (read_all (s := s) (o := o) (r := i) (by rw [HWS.out]; exact HHH.out) HER.out (by rw [HWS.out]; exact HJ.out))
              rw [HWS.out] at HRA
              have a0 : wr.cell? ⟨AR, 0, none⟩ = some (.int .i64 (regX ws i 0 : Nat)) := HLX.out.cell (j := 0) rfl
              have a1 : wr.cell? ⟨AR, 1, none⟩ = some (.int .i64 (regX ws i 1 : Nat)) := HLX.out.cell (j := 1) rfl
              have a2 : wr.cell? ⟨AR, 2, none⟩ = some (.int .i64 (regX ws i 2 : Nat)) := HLX.out.cell (j := 2) rfl
              have b0 : (wr.setCell ⟨GX, 1, none⟩ (.int .i64 (regX ws i 0 : Nat))).cell? ⟨AR, 1, none⟩ = some (.int .i64 (regX ws i 1 : Nat)) := (HLX.out.far (a := ⟨GX, 1, none⟩) (Nat.ne_of_gt HNA.out.1) (.int .i64 (regX ws i 0 : Nat))).cell (j := 1) rfl
              have b1 : (wr.setCell ⟨GX, 1, none⟩ (.int .i64 (regX ws i 0 : Nat))).cell? ⟨AR, 2, none⟩ = some (.int .i64 (regX ws i 2 : Nat)) := (HLX.out.far (a := ⟨GX, 1, none⟩) (Nat.ne_of_gt HNA.out.1) (.int .i64 (regX ws i 0 : Nat))).cell (j := 2) rfl
              have b2 : ((wr.setCell ⟨GX, 1, none⟩ (.int .i64 (regX ws i 0 : Nat))).setCell ⟨GX, 2, none⟩ (.int .i64 (regX ws i 1 : Nat))).cell? ⟨AR, 2, none⟩ = some (.int .i64 (regX ws i 2 : Nat)) := ((HLX.out.far (a := ⟨GX, 1, none⟩) (Nat.ne_of_gt HNA.out.1) (.int .i64 (regX ws i 0 : Nat))).far (a := ⟨GX, 2, none⟩) (Nat.ne_of_gt HNA.out.1) (.int .i64 (regX ws i 1 : Nat))).cell (j := 2) rfl
              have x1 : wr.cell? ⟨GX, 1, none⟩ = some (.int .i64 0) := HI7.out.cell (j := 1) rfl
              have x2 : wr.cell? ⟨GX, 2, none⟩ = some (.int .i64 0) := HI7.out.cell (j := 2) rfl
              have x3 : wr.cell? ⟨GX, 3, none⟩ = some (.int .i64 0) := HI7.out.cell (j := 3) rfl
              have f1 := HI7.out.fz 1
              have f2 := HI7.out.fz 2
              have f3 := HI7.out.fz 3
              have HI8 := Lib.hid (((HI7.out.set 1 (.int .i64 (regX ws i 0 : Nat))).set 2 (.int .i64 (regX ws i 1 : Nat))).set 3 (.int .i64 (regX ws i 2 : Nat)))
              have HX8 := Lib.hid (((HX7.out.far (a := ⟨GX, 1, none⟩) HNA.out.2.2.2.symm (.int .i64 (regX ws i 0 : Nat))).far (a := ⟨GX, 2, none⟩) HNA.out.2.2.2.symm (.int .i64 (regX ws i 1 : Nat))).far (a := ⟨GX, 3, none⟩) HNA.out.2.2.2.symm (.int .i64 (regX ws i 2 : Nat)))
              have HB8 := Lib.hid (((HB7.out.setCell (p := ⟨GX, 1, none⟩) (Nat.le_of_lt HRX.out) (.int .i64 (regX ws i 0 : Nat))).setCell (p := ⟨GX, 2, none⟩) (Nat.le_of_lt HRX.out) (.int .i64 (regX ws i 1 : Nat))).setCell (p := ⟨GX, 3, none⟩) (Nat.le_of_lt HRX.out) (.int .i64 (regX ws i 2 : Nat)))
              have HTW : Hid (Turns [GX] wr (((wr.setCell ⟨GX, 1, none⟩ (.int .i64 (regX ws i 0 : Nat))).setCell ⟨GX, 2, none⟩ (.int .i64 (regX ws i 1 : Nat))).setCell ⟨GX, 3, none⟩ (.int .i64 (regX ws i 2 : Nat)))) := Lib.hid ((((Turns.refl _ wr).set (p := ⟨GX, 1, none⟩) (.inl (by simp)) _).set (p := ⟨GX, 2, none⟩) (.inl (by simp)) _).set (p := ⟨GX, 3, none⟩) (.inl (by simp)) _)
              have HW8 : Hid (RowS (((wr.setCell ⟨GX, 1, none⟩ (.int .i64 (regX ws i 0 : Nat))).setCell ⟨GX, 2, none⟩ (.int .i64 (regX ws i 1 : Nat))).setCell ⟨GX, 3, none⟩ (.int .i64 (regX ws i 2 : Nat))) w.heap.size (.slice (some ⟨g, 0, none⟩) wn cap) ws) := Lib.hid (row_turns HWX.out HTW.out (fun k hk => by cases hk; simpa using HGX.out))
              generalize (regX ws i 0 : Nat) = ra at *
              generalize (regX ws i 1 : Nat) = rb at *
              generalize (regX ws i 2 : Nat) = rc at *
              clear HJ HTX hi hlt2 HTW HWX HX7 HI7 HB7 HI6 HX6 HB6 HW6 HLX
              go_upto_region 23 with fail
              go_region
              clear a0 a1 a2 x1 x2 x3 f1 f2 f3 b0 b1 b2
              replace HI8 := Lib.hid (Cells.drew HI8.out)
              replace HX8 := Lib.hid (Cells.drew HX8.out)
              replace HB8 := Lib.hid (Below.drew HB8.out)
              replace HW8 := Lib.hid (World.ownsRow.drew HW8.out)
              generalize hw8 : World.drew _ = w8
              rw [hw8] at HI8 HX8 HB8 HW8
              replace HW8 : Hid (RowS w8 w.heap.size (.slice (some ⟨g, 0, none⟩) wn cap) ws) := HW8
              clear hw8
              have l2 : w8.cell? ⟨g, 1 + i, none⟩ = some (.string (strOf (ws.getD (1 + i) []))) := HW8.out.word (1 + i) (by rw [HWN.out]; omega)
              have i7 : (0 : Int) ≤ 1 + (i : Int) := by omega
              have i8 : 1 + (i : Int) < wn := by omega
              have hna : (1 + (i : Int)).toNat = 1 + i := by omega
              have HI9 : Hid (Cells w8 GX 43 #[(.int .i64 (o : Nat)), (.int .i64 (ra : Nat)), (.int .i64 (rb : Nat)), (.int .i64 (rc : Nat)), .int .i64 0, .int .u64 0]) := HI8
              have kc := rparse_any (l := ws.getD (1 + i) []) (by have := HLN.out (1 + i); omega) w8
              have HQ : Hid (((fparse (ws.getD (1 + i) [])).2 == 0) = (readIns s).isSome ∧ ∀ y, readIns s = some y → (⟨(o : Nat), (ra : Nat), (rb : Nat), (rc : Nat), 0, (fparse (ws.getD (1 + i) [])).1⟩ : Ins) = y) := Lib.hid (by
                rw [HRA.out]; unfold readTail; rw [if_neg (by rw [HNN.out]; decide), if_pos HKK.out]
                by_cases hz : (fparse (ws.getD (1 + i) [])).2 = 0
                · rw [if_pos hz, hz]; exact ⟨rfl, fun y hy => by injection hy⟩
                · rw [if_neg hz, beq_eq_false_iff_ne.2 hz]; exact ⟨rfl, fun y hy => by cases hy⟩)
              generalize (fparse (ws.getD (1 + i) [])).1 = kv at *
              generalize (fparse (ws.getD (1 + i) [])).2 = code at *
              have KC := Lib.hid kc
              have HEND := HQ
              clear kc HQ
              generalize strOf (ws.getD (1 + i) []) = Sn at *
              clear r3 hw2 hrw2 hrw3 HRA HLN HI8
              go_upto_region 31 with (go_at_call 80; refine KC.out.mono ?_; rintro _ w7 ⟨rfl, hb7⟩; have HX10 := Lib.hid ((HX8.out.keep hb7).far (a := ⟨GX, 5, none⟩) HNA.out.2.2.2.symm (.int .u64 (kv : Nat))); have HI10 := Lib.hid (HI9.out.keep hb7); have HB10 := Lib.hid ((grow_to HB8.out hb7).setCell (p := ⟨GX, 5, none⟩) (Nat.le_of_lt HRX.out) (.int .u64 (kv : Nat))); have c5 : w7.cell? ⟨GX, 5, none⟩ = some (.int .u64 0) := HI10.out.cell (j := 5) rfl; have z5 := HI10.out.fz 5; clear hb7)
              have HI11 := Lib.hid (HI10.out.set 5 (.int .u64 (kv : Nat)))
              generalize w7.setCell ⟨GX, 5, none⟩ (.int .u64 (kv : Nat)) = w10 at *
              have HI12 : Hid (Cells w10 GX 43 #[(.int .i64 (o : Nat)), (.int .i64 (ra : Nat)), (.int .i64 (rb : Nat)), (.int .i64 (rc : Nat)), (.int .i64 0), (.int .u64 (kv : Nat))]) := HI11
              clear HI11 HI10 HX8 HB8 HI9 HW8 l2 c5 z5
              have d0 : w10.cell? ⟨GX, 0, none⟩ = some (.int .i64 (o : Nat)) := HI12.out.cell (j := 0) rfl
              have d1 : w10.cell? ⟨GX, 1, none⟩ = some (.int .i64 (ra : Nat)) := HI12.out.cell (j := 1) rfl
              have d2 : w10.cell? ⟨GX, 2, none⟩ = some (.int .i64 (rb : Nat)) := HI12.out.cell (j := 2) rfl
              have d3 : w10.cell? ⟨GX, 3, none⟩ = some (.int .i64 (rc : Nat)) := HI12.out.cell (j := 3) rfl
              have d4 : w10.cell? ⟨GX, 4, none⟩ = some (.int .i64 0) := HI12.out.cell (j := 4) rfl
              have d5 : w10.cell? ⟨GX, 5, none⟩ = some (.int .u64 (kv : Nat)) := HI12.out.cell (j := 5) rfl
              have c0 : w10.cell? ⟨w.heap.size, 0, none⟩ = some (.int .i64 0) := HX10.out.cell (j := 0) rfl
              have c1 : w10.cell? ⟨w.heap.size, 1, none⟩ = some (.int .i64 0) := HX10.out.cell (j := 1) rfl
              have c2 : w10.cell? ⟨w.heap.size, 2, none⟩ = some (.int .i64 0) := HX10.out.cell (j := 2) rfl
              have c3 : w10.cell? ⟨w.heap.size, 3, none⟩ = some (.int .i64 0) := HX10.out.cell (j := 3) rfl
              have c4 : w10.cell? ⟨w.heap.size, 4, none⟩ = some (.int .i64 0) := HX10.out.cell (j := 4) rfl
              have c5 : w10.cell? ⟨w.heap.size, 5, none⟩ = some (.int .u64 0) := HX10.out.cell (j := 5) rfl
              have z0 := HX10.out.fz 0
              have z1 := HX10.out.fz 1
              have z2 := HX10.out.fz 2
              have z3 := HX10.out.fz 3
              have z4 := HX10.out.fz 4
              have z5 := HX10.out.fz 5
              go_wp2
              generalize hW9 : World.setCell _ _ _ = W9
              exact ret_ins rfl rfl rfl (hW9 ▸ ins_store HX10.out) rfl ⟨ro_done HEND.out.1 HEND.out.2, hW9 ▸ ins_below HB10.out (Nat.le_refl _)⟩
      · have hmm : opMany o = r + 2 := by rw [hmm0, hN, hK]; simp; omega
        have HNN := Lib.hid hN
        have HKK := Lib.hid hK
        rw [hN, hK] at KH
        clear hmm0 hN hK HNK
        have hway : (((o : Int) == 0) = true ∨ (((o : Int) == 0) = false ∧ ((wn : Int) != 1 + (r : Int) + 1) = true)) ∧ ¬ Hits ws o ∨ (((o : Int) == 0) = false ∧ ((wn : Int) != 1 + (r : Int) + 1) = false) ∧ Hits ws o := by
          by_cases h0 : o = 0
          · exact .inl ⟨.inl (by rw [h0]; rfl), fun h => h.1 h0⟩
          · have b0 : ((o : Int) == 0) = false := by rw [beq_eq_false_iff_ne]; omega
            by_cases h2 : wn = opMany o
            · exact .inr ⟨⟨b0, by rw [bne_eq_false_iff_eq]; omega⟩, h0, by rw [HW0.out]; exact HOP.out, by rw [HWN.out]; exact h2⟩
            · exact .inl ⟨.inr ⟨b0, by rw [bne_iff_ne]; omega⟩, fun h => h2 (HWN.out.symm.trans h.2.2)⟩
        have hrw : r + 1 ≤ wn ∨ ¬ (wn = opMany o) := by omega
        rcases hway with ⟨hway, hm⟩ | ⟨⟨b0, b1⟩, hh⟩
        · have HNO := Lib.hid (HMISS.out (by rw [HWS.out]; exact hm))
          clear hm hmm hrw
          rcases hway with b0 | ⟨b0, b1⟩
          all_goals go_wp2_with (go_at_call 47; go_loud (refine (KH.out _).mono ?_); rintro _ w5 ⟨rfl, e5⟩; rw [e5]; clear e5 w5)
          all_goals generalize hW9 : World.setCell _ _ _ = W9
          all_goals exact ret_ins rfl rfl rfl (hW9 ▸ ins_store HXR.out) rfl ⟨ro_fail HNO.out _ _ _ _ _ _, hW9 ▸ ins_below HBR.out (Nat.le_refl _)⟩
        · have HHH := Lib.hid hh
          have hrw2 : r + 1 ≤ wn := by rcases hrw with h | h; exact h; exact absurd (HWN.out.symm.trans hh.2.2) h
          have hrw3 : r + 2 ≤ wn := by have := HWN.out.symm.trans hh.2.2; omega
          clear hh hmm hrw
          go_upto_region 15 with (go_at_call 47; go_loud (refine (KH.out _).mono ?_); rintro _ w5 ⟨rfl, e5⟩; rw [e5]; clear e5 w5)
          have HI5 := Lib.hid (Cells.new wr 43 #[.int .i64 (o : Nat), .int .i64 0, .int .i64 0, .int .i64 0, .int .i64 0, .int .u64 0])
          have HX5 := Lib.hid (HXR.out.alloc (.cells #[.int .i64 (o : Nat), .int .i64 0, .int .i64 0, .int .i64 0, .int .i64 0, .int .u64 0] 43))
          have HB5 := Lib.hid (HBR.out.alloc HBR.out.size (.cells #[.int .i64 (o : Nat), .int .i64 0, .int .i64 0, .int .i64 0, .int .i64 0, .int .u64 0] 43))
          have HW5 : Hid (RowS (wr.alloc (.cells #[.int .i64 (o : Nat), .int .i64 0, .int .i64 0, .int .i64 0, .int .i64 0, .int .u64 0] 43)) w.heap.size (.slice (some ⟨g, 0, none⟩) wn cap) ws) := Lib.hid (HWR.out.keep ((Below.refl wr.heap.size wr).alloc (Nat.le_refl _) _))
          have HRX := Lib.hid (show w.heap.size < wr.heap.size from HXR.out.lt)
          have HGX := Lib.hid (show g ≠ wr.heap.size from Nat.ne_of_lt (World.ownsRow.lt HWR.out g rfl).2)
          clear HXR HBR HWR KH c0 c1 c2 c3 c4 c5 z0 z1 z2 z3 z4 z5
          generalize wr.alloc (.cells #[.int .i64 (o : Nat), .int .i64 0, .int .i64 0, .int .i64 0, .int .i64 0, .int .u64 0] 43) = w3 at *
          generalize wr.heap.size = GX at *
          clear wr
          go_upto_region 16 with fail
          have HL6 := Lib.hid (Cells.new w3 76 #[.int .i64 0, .int .i64 0, .int .i64 0])
          have HI6 := Lib.hid (HI5.out.alloc (.cells #[.int .i64 0, .int .i64 0, .int .i64 0] 76))
          have HX6 := Lib.hid (HX5.out.alloc (.cells #[.int .i64 0, .int .i64 0, .int .i64 0] 76))
          have HB6 := Lib.hid (HB5.out.alloc HB5.out.size (.cells #[.int .i64 0, .int .i64 0, .int .i64 0] 76))
          have HW6 : Hid (RowS (w3.alloc (.cells #[.int .i64 0, .int .i64 0, .int .i64 0] 76)) w.heap.size (.slice (some ⟨g, 0, none⟩) wn cap) ws) := Lib.hid (HW5.out.keep ((Below.refl w3.heap.size w3).alloc (Nat.le_refl _) _))
          have HNA := Lib.hid (show GX < w3.heap.size ∧ w.heap.size < w3.heap.size ∧ g < w3.heap.size ∧ GX ≠ w.heap.size from ⟨HI5.out.lt, HX5.out.lt, (World.ownsRow.lt HW5.out g rfl).2, Nat.ne_of_gt HRX.out⟩)
          clear HI5 HX5 HB5 HW5
          generalize w3.alloc (.cells #[.int .i64 0, .int .i64 0, .int .i64 0] 76) = w6 at *
          generalize w3.heap.size = AR at *
          clear w3
          go_wp2
          go_loopw [13] (fun iv wx => ∃ i : Nat, i ≤ r ∧ iv = .int .i64 (i : Int) ∧ (∀ j : Nat, j < i → (regOf (ws.getD (1 + j) [])).isSome = true) ∧ Cells wx AR 76 #[.int .i64 (regX ws i 0 : Nat), .int .i64 (regX ws i 1 : Nat), .int .i64 (regX ws i 2 : Nat)] ∧ Turns [AR] w6 wx) (fun iv _ => r - (intOf iv).toNat)
          case atStart => exact ⟨0, Nat.zero_le _, rfl, fun j hj => absurd hj (by omega), by rw [regX_zero3]; exact HL6.out, Turns.refl _ _⟩
          case round =>
            obtain ⟨i, hi, rfl, hj, hL, hT⟩ := hrel
            have HLX := Lib.hid hL
            have HTX := Lib.hid hT
            have HJ := Lib.hid hj
            clear hL hT hj HL6
            have HWX : Hid (RowS wr w.heap.size (.slice (some ⟨g, 0, none⟩) wn cap) ws) := Lib.hid (row_turns HW6.out HTX.out (fun k hk => by cases hk; simp; exact Nat.ne_of_lt HNA.out.2.2.1))
            have HX7 := Lib.hid (HX6.out.turns HTX.out (by simp; exact Nat.ne_of_lt HNA.out.2.1))
            have HI7 := Lib.hid (HI6.out.turns HTX.out (by simp; exact Nat.ne_of_lt HNA.out.1))
            have HB7 := Lib.hid (HB6.out.trans (HTX.out.below HB6.out.size (by simp; exact Nat.le_of_lt HNA.out.2.1)))
            by_cases hlt2 : i < r
            · have h3i : i < 3 := by omega
              have l1 : wr.cell? ⟨g, 1 + i, none⟩ = some (.string (strOf (ws.getD (1 + i) []))) := HWX.out.word (1 + i) (by rw [HWN.out]; omega)
              have i2 : (0 : Int) ≤ i := by omega
              have i3 : (i : Int) < r := by omega
              have i9 : (i : Int) < 3 := by omega
              have i7 : (0 : Int) ≤ 1 + (i : Int) := by omega
              have i8 : 1 + (i : Int) < wn := by omega
              have hwi : wrap64 ((i : Int) + 1) = (i : Int) + 1 := by unfold wrap64; omega
              have hwj : wrap64 (1 + (i : Int)) = 1 + (i : Int) := by unfold wrap64; omega
              have hna : (1 + (i : Int)).toNat = 1 + i := by omega
              have HLI := Lib.hid (show i < r ∧ i < 3 from ⟨hlt2, h3i⟩)
              clear hlt2 h3i hi r3 hw1 hw2 hrw2 b0 b1 ho25 hn0 t1 hrw3
              cases hr : regOf (ws.getD (1 + i) []) with
              | some u =>
                obtain ⟨d, hd, d1, d2, hu⟩ := reg_word hr
                have HU := Lib.hid (show regU ws i = u from by unfold regU; rw [hr]; rfl)
                have HJ2 : Hid (∀ j : Nat, j < i + 1 → (regOf (ws.getD (1 + j) [])).isSome = true) := Lib.hid fun j hj => by
                  rcases Nat.lt_or_ge j i with h | h
                  · exact HJ.out j h
                  · obtain rfl : j = i := by omega
                    rw [hr]; rfl
                rw [hd] at l1
                have n0 : ∀ W, (Instr.index 9 (.string (strOf [114, d])) (.int .i64 0)).run Tryz.prog W = .ok (.int .u8 114) W := fun W => (word_two 114 d W).1
                have n1 := fun W => (word_two 114 d W).2
                have n2 : ((strOf [114, d]).size : Int) = 2 := rfl
                have n4 : ¬ (((d.toNat : Nat) : Int) < 48) := by omega
                have n5 : ¬ ((55 : Int) < ((d.toNat : Nat) : Int)) := by omega
                have n6 : IntKind.u8.wrap (((d.toNat : Nat) : Int) - 48) = ((u : Nat) : Int) := by rw [IntKind.wrap_u8]; omega
                have n7 : wrap64 ((u : Nat) : Int) = ((u : Nat) : Int) := by unfold wrap64; omega
                obtain ⟨v1, c1⟩ := cell3 HLX.out i HLI.out.2
                have z1 := HLX.out.fz i
                have HL8 := Lib.hid (show Cells (wr.setCell ⟨AR, i, none⟩ (.int .i64 (u : Nat))) AR 76 #[.int .i64 (regX ws (i + 1) 0 : Nat), .int .i64 (regX ws (i + 1) 1 : Nat), .int .i64 (regX ws (i + 1) 2 : Nat)] from by have := HLX.out.set i (.int .i64 (u : Nat)); rw [regX_set3 ws i HLI.out.2 u HU.out] at this; exact this)
                have HT8 := Lib.hid (HTX.out.set (p := ⟨AR, i, none⟩) (.inl (by simp)) (.int .i64 (u : Nat)))
                clear hr hd d1 d2 hu HLX HTX HJ
                generalize strOf [114, d] = Sd at *
                generalize d.toNat = dn at *
                go_wp2
                exact ⟨⟨i + 1, HLI.out.1, by first | exact up_val hwi | rfl, HJ2.out, HL8.out, HT8.out⟩, by first | exact up_end HLI.out.1 hwi | (have hh := HLI.out; simp [intOf]; omega)⟩
              | none =>
                have HNO := Lib.hid (read_reg (s := s) (o := o) (r := r) (i := i) (by rw [HWS.out]; exact HHH.out) HER.out (by have := regs_lt (o : Int); have := HER.out; omega) HLI.out.1 (by rw [HWS.out]; exact hr))
                have c0 : wr.cell? ⟨w.heap.size, 0, none⟩ = some (.int .i64 0) := HX7.out.cell (j := 0) rfl
                have c1 : wr.cell? ⟨w.heap.size, 1, none⟩ = some (.int .i64 0) := HX7.out.cell (j := 1) rfl
                have c2 : wr.cell? ⟨w.heap.size, 2, none⟩ = some (.int .i64 0) := HX7.out.cell (j := 2) rfl
                have c3 : wr.cell? ⟨w.heap.size, 3, none⟩ = some (.int .i64 0) := HX7.out.cell (j := 3) rfl
                have c4 : wr.cell? ⟨w.heap.size, 4, none⟩ = some (.int .i64 0) := HX7.out.cell (j := 4) rfl
                have c5 : wr.cell? ⟨w.heap.size, 5, none⟩ = some (.int .u64 0) := HX7.out.cell (j := 5) rfl
                have z0 := HX7.out.fz 0
                have z1 := HX7.out.fz 1
                have z2 := HX7.out.fz 2
                have z3 := HX7.out.fz 3
                have z4 := HX7.out.fz 4
                have z5 := HX7.out.fz 5
                rcases reg_none hr with hl2 | ⟨a, d, hd, ha | ⟨ha, hd2⟩ | ⟨ha, hd2, hd3⟩⟩
                · have n2 : (((strOf (ws.getD (1 + i) [])).size : Int) != 2) = true := by rw [bne_iff_ne, str_len]; omega
                  clear hr hl2 HTX HJ HLX
                  generalize strOf (ws.getD (1 + i) []) = Sd at *
                  go_wp2
                  generalize hW9 : World.setCell _ _ _ = W9
                  exact ret_ins rfl rfl rfl (hW9 ▸ ins_store HX7.out) rfl ⟨ro_fail HNO.out _ _ _ _ _ _, hW9 ▸ ins_below HB7.out (Nat.le_refl _)⟩
                · skip
                  rw [hd] at l1
                  have n0 := fun W => (word_two a d W).1
                  have n3 : (((a.toNat : Nat) : Int) != 114) = true := by rw [bne_iff_ne]; intro e; exact ha (UInt8.toNat_inj.1 (by show a.toNat = 114; omega))
                  clear ha
                  have n1 := fun W => (word_two a d W).2
                  have n2 : ((strOf [a, d]).size : Int) = 2 := rfl
                  clear hr hd HTX HJ HLX
                  generalize strOf [a, d] = Sd at *
                  generalize a.toNat = an at *
                  generalize d.toNat = dn at *
                  go_wp2
                  generalize hW9 : World.setCell _ _ _ = W9
                  exact ret_ins rfl rfl rfl (hW9 ▸ ins_store HX7.out) rfl ⟨ro_fail HNO.out _ _ _ _ _ _, hW9 ▸ ins_below HB7.out (Nat.le_refl _)⟩
                · subst ha
                  rw [hd] at l1
                  have n0 : ∀ W, (Instr.index 9 (.string (strOf [114, d])) (.int .i64 0)).run Tryz.prog W = .ok (.int .u8 114) W := fun W => (word_two 114 d W).1
                  have n1 := fun W => (word_two 114 d W).2
                  have n2 : ((strOf [114, d]).size : Int) = 2 := rfl
                  have n4 : (((d.toNat : Nat) : Int) < 48) := by omega
                  clear hd2
                  clear hr hd HTX HJ HLX
                  generalize strOf [114, d] = Sd at *
                  generalize d.toNat = dn at *
                  go_wp2
                  generalize hW9 : World.setCell _ _ _ = W9
                  exact ret_ins rfl rfl rfl (hW9 ▸ ins_store HX7.out) rfl ⟨ro_fail HNO.out _ _ _ _ _ _, hW9 ▸ ins_below HB7.out (Nat.le_refl _)⟩
                · subst ha
                  rw [hd] at l1
                  have n0 : ∀ W, (Instr.index 9 (.string (strOf [114, d])) (.int .i64 0)).run Tryz.prog W = .ok (.int .u8 114) W := fun W => (word_two 114 d W).1
                  have n1 := fun W => (word_two 114 d W).2
                  have n2 : ((strOf [114, d]).size : Int) = 2 := rfl
                  have n4 : ¬ (((d.toNat : Nat) : Int) < 48) := by omega
                  have n5 : ((55 : Int) < ((d.toNat : Nat) : Int)) := by omega
                  clear hd2 hd3
                  clear hr hd HTX HJ HLX
                  generalize strOf [114, d] = Sd at *
                  generalize d.toNat = dn at *
                  go_wp2
                  generalize hW9 : World.setCell _ _ _ = W9
                  exact ret_ins rfl rfl rfl (hW9 ▸ ins_store HX7.out) rfl ⟨ro_fail HNO.out _ _ _ _ _ _, hW9 ▸ ins_below HB7.out (Nat.le_refl _)⟩
            · obtain rfl : i = r := by omega
              have i3 : ¬ (i : Int) < i := by omega
              have HRA := Lib.hid (read_all (s := s) (o := o) (r := i) (by rw [HWS.out]; exact HHH.out) HER.out (by rw [HWS.out]; exact HJ.out))
              rw [HWS.out] at HRA
              have a0 : wr.cell? ⟨AR, 0, none⟩ = some (.int .i64 (regX ws i 0 : Nat)) := HLX.out.cell (j := 0) rfl
              have a1 : wr.cell? ⟨AR, 1, none⟩ = some (.int .i64 (regX ws i 1 : Nat)) := HLX.out.cell (j := 1) rfl
              have a2 : wr.cell? ⟨AR, 2, none⟩ = some (.int .i64 (regX ws i 2 : Nat)) := HLX.out.cell (j := 2) rfl
              have b0 : (wr.setCell ⟨GX, 1, none⟩ (.int .i64 (regX ws i 0 : Nat))).cell? ⟨AR, 1, none⟩ = some (.int .i64 (regX ws i 1 : Nat)) := (HLX.out.far (a := ⟨GX, 1, none⟩) (Nat.ne_of_gt HNA.out.1) (.int .i64 (regX ws i 0 : Nat))).cell (j := 1) rfl
              have b1 : (wr.setCell ⟨GX, 1, none⟩ (.int .i64 (regX ws i 0 : Nat))).cell? ⟨AR, 2, none⟩ = some (.int .i64 (regX ws i 2 : Nat)) := (HLX.out.far (a := ⟨GX, 1, none⟩) (Nat.ne_of_gt HNA.out.1) (.int .i64 (regX ws i 0 : Nat))).cell (j := 2) rfl
              have b2 : ((wr.setCell ⟨GX, 1, none⟩ (.int .i64 (regX ws i 0 : Nat))).setCell ⟨GX, 2, none⟩ (.int .i64 (regX ws i 1 : Nat))).cell? ⟨AR, 2, none⟩ = some (.int .i64 (regX ws i 2 : Nat)) := ((HLX.out.far (a := ⟨GX, 1, none⟩) (Nat.ne_of_gt HNA.out.1) (.int .i64 (regX ws i 0 : Nat))).far (a := ⟨GX, 2, none⟩) (Nat.ne_of_gt HNA.out.1) (.int .i64 (regX ws i 1 : Nat))).cell (j := 2) rfl
              have x1 : wr.cell? ⟨GX, 1, none⟩ = some (.int .i64 0) := HI7.out.cell (j := 1) rfl
              have x2 : wr.cell? ⟨GX, 2, none⟩ = some (.int .i64 0) := HI7.out.cell (j := 2) rfl
              have x3 : wr.cell? ⟨GX, 3, none⟩ = some (.int .i64 0) := HI7.out.cell (j := 3) rfl
              have f1 := HI7.out.fz 1
              have f2 := HI7.out.fz 2
              have f3 := HI7.out.fz 3
              have HI8 := Lib.hid (((HI7.out.set 1 (.int .i64 (regX ws i 0 : Nat))).set 2 (.int .i64 (regX ws i 1 : Nat))).set 3 (.int .i64 (regX ws i 2 : Nat)))
              have HX8 := Lib.hid (((HX7.out.far (a := ⟨GX, 1, none⟩) HNA.out.2.2.2.symm (.int .i64 (regX ws i 0 : Nat))).far (a := ⟨GX, 2, none⟩) HNA.out.2.2.2.symm (.int .i64 (regX ws i 1 : Nat))).far (a := ⟨GX, 3, none⟩) HNA.out.2.2.2.symm (.int .i64 (regX ws i 2 : Nat)))
              have HB8 := Lib.hid (((HB7.out.setCell (p := ⟨GX, 1, none⟩) (Nat.le_of_lt HRX.out) (.int .i64 (regX ws i 0 : Nat))).setCell (p := ⟨GX, 2, none⟩) (Nat.le_of_lt HRX.out) (.int .i64 (regX ws i 1 : Nat))).setCell (p := ⟨GX, 3, none⟩) (Nat.le_of_lt HRX.out) (.int .i64 (regX ws i 2 : Nat)))
              have HTW : Hid (Turns [GX] wr (((wr.setCell ⟨GX, 1, none⟩ (.int .i64 (regX ws i 0 : Nat))).setCell ⟨GX, 2, none⟩ (.int .i64 (regX ws i 1 : Nat))).setCell ⟨GX, 3, none⟩ (.int .i64 (regX ws i 2 : Nat)))) := Lib.hid ((((Turns.refl _ wr).set (p := ⟨GX, 1, none⟩) (.inl (by simp)) _).set (p := ⟨GX, 2, none⟩) (.inl (by simp)) _).set (p := ⟨GX, 3, none⟩) (.inl (by simp)) _)
              have HW8 : Hid (RowS (((wr.setCell ⟨GX, 1, none⟩ (.int .i64 (regX ws i 0 : Nat))).setCell ⟨GX, 2, none⟩ (.int .i64 (regX ws i 1 : Nat))).setCell ⟨GX, 3, none⟩ (.int .i64 (regX ws i 2 : Nat))) w.heap.size (.slice (some ⟨g, 0, none⟩) wn cap) ws) := Lib.hid (row_turns HWX.out HTW.out (fun k hk => by cases hk; simpa using HGX.out))
              generalize (regX ws i 0 : Nat) = ra at *
              generalize (regX ws i 1 : Nat) = rb at *
              generalize (regX ws i 2 : Nat) = rc at *
              clear HJ HTX hi hlt2 HTW HWX HX7 HI7 HB7 HI6 HX6 HB6 HW6 HLX
              go_upto_region 23 with fail
              go_region
              clear a0 a1 a2 x1 x2 x3 f1 f2 f3 b0 b1 b2
              replace HI8 := Lib.hid (Cells.drew HI8.out)
              replace HX8 := Lib.hid (Cells.drew HX8.out)
              replace HB8 := Lib.hid (Below.drew HB8.out)
              replace HW8 := Lib.hid (World.ownsRow.drew HW8.out)
              generalize hw8 : World.drew _ = w8
              rw [hw8] at HI8 HX8 HB8 HW8
              replace HW8 : Hid (RowS w8 w.heap.size (.slice (some ⟨g, 0, none⟩) wn cap) ws) := HW8
              clear hw8
              have l2 : w8.cell? ⟨g, 1 + i, none⟩ = some (.string (strOf (ws.getD (1 + i) []))) := HW8.out.word (1 + i) (by rw [HWN.out]; omega)
              have i7 : (0 : Int) ≤ 1 + (i : Int) := by omega
              have i8 : 1 + (i : Int) < wn := by omega
              have hna : (1 + (i : Int)).toNat = 1 + i := by omega
              have HI9 : Hid (Cells w8 GX 43 #[(.int .i64 (o : Nat)), (.int .i64 (ra : Nat)), (.int .i64 (rb : Nat)), (.int .i64 (rc : Nat)), .int .i64 0, .int .u64 0]) := HI8
              have kc := rnumber_any (ws.getD (1 + i) []) (by have := HLN.out (1 + i); omega) w8
              have HQ : Hid (∀ nn : Int, (∀ m : Nat, numOf (ws.getD (1 + i) []) = some m → nn = (m : Int)) → (numOf (ws.getD (1 + i) [])).isSome = (readIns s).isSome ∧ ∀ y, readIns s = some y → (⟨(o : Nat), (ra : Nat), (rb : Nat), (rc : Nat), nn, 0⟩ : Ins) = y) := Lib.hid fun nn hm => by
                rw [HRA.out]; unfold readTail; rw [if_pos HNN.out]
                cases hq : numOf (ws.getD (1 + i) []) with
                | none => exact ⟨rfl, fun y hy => by cases hy⟩
                | some m => exact ⟨rfl, fun y hy => by injection hy with hy; rw [← hy, hm m hq]⟩
              obtain ⟨PN, hPN⟩ : ∃ PN : Int → Prop, (fun n : Int => ∀ m : Nat, numOf (ws.getD (1 + i) []) = some m → n = (m : Int)) = PN := ⟨_, rfl⟩
              replace kc : Calls Tryz.prog 42 #[.string (strOf (ws.getD (1 + i) []))] w8 fun e w' => (∃ n : Int, e = .returned (.tuple #[.int .i64 n, .bool (numOf (ws.getD (1 + i) [])).isSome]) ∧ PN n) ∧ Below w8.heap.size w8 w' := hPN ▸ kc
              replace HQ : Hid (∀ nn : Int, PN nn → (numOf (ws.getD (1 + i) [])).isSome = (readIns s).isSome ∧ ∀ y, readIns s = some y → (⟨(o : Nat), (ra : Nat), (rb : Nat), (rc : Nat), nn, 0⟩ : Ins) = y) := Lib.hid (hPN ▸ HQ.out)
              generalize (numOf (ws.getD (1 + i) [])).isSome = okn at *
              have KC := Lib.hid kc
              clear hPN kc
              generalize strOf (ws.getD (1 + i) []) = Sn at *
              clear r3 hw2 hrw2 hrw3 HRA HLN HI8
              go_upto_region 31 with (go_at_call 42; refine KC.out.mono ?_; rintro _ w7 ⟨⟨nn, rfl, hnn⟩, hb7⟩; have HX10 := Lib.hid ((HX8.out.keep hb7).far (a := ⟨GX, 4, none⟩) HNA.out.2.2.2.symm (.int .i64 nn)); have HI10 := Lib.hid (HI9.out.keep hb7); have HB10 := Lib.hid ((grow_to HB8.out hb7).setCell (p := ⟨GX, 4, none⟩) (Nat.le_of_lt HRX.out) (.int .i64 nn)); have c4 : w7.cell? ⟨GX, 4, none⟩ = some (.int .i64 0) := HI10.out.cell (j := 4) rfl; have z4 := HI10.out.fz 4; have HEND := Lib.hid (HQ.out nn hnn); clear hnn hb7)
              have HI11 := Lib.hid (HI10.out.set 4 (.int .i64 nn))
              generalize w7.setCell ⟨GX, 4, none⟩ (.int .i64 nn) = w10 at *
              have HI12 : Hid (Cells w10 GX 43 #[(.int .i64 (o : Nat)), (.int .i64 (ra : Nat)), (.int .i64 (rb : Nat)), (.int .i64 (rc : Nat)), (.int .i64 nn), (.int .u64 0)]) := HI11
              clear HI11 HI10 HX8 HB8 HI9 HW8 l2 c4 z4
              have d0 : w10.cell? ⟨GX, 0, none⟩ = some (.int .i64 (o : Nat)) := HI12.out.cell (j := 0) rfl
              have d1 : w10.cell? ⟨GX, 1, none⟩ = some (.int .i64 (ra : Nat)) := HI12.out.cell (j := 1) rfl
              have d2 : w10.cell? ⟨GX, 2, none⟩ = some (.int .i64 (rb : Nat)) := HI12.out.cell (j := 2) rfl
              have d3 : w10.cell? ⟨GX, 3, none⟩ = some (.int .i64 (rc : Nat)) := HI12.out.cell (j := 3) rfl
              have d4 : w10.cell? ⟨GX, 4, none⟩ = some (.int .i64 nn) := HI12.out.cell (j := 4) rfl
              have d5 : w10.cell? ⟨GX, 5, none⟩ = some (.int .u64 0) := HI12.out.cell (j := 5) rfl
              have c0 : w10.cell? ⟨w.heap.size, 0, none⟩ = some (.int .i64 0) := HX10.out.cell (j := 0) rfl
              have c1 : w10.cell? ⟨w.heap.size, 1, none⟩ = some (.int .i64 0) := HX10.out.cell (j := 1) rfl
              have c2 : w10.cell? ⟨w.heap.size, 2, none⟩ = some (.int .i64 0) := HX10.out.cell (j := 2) rfl
              have c3 : w10.cell? ⟨w.heap.size, 3, none⟩ = some (.int .i64 0) := HX10.out.cell (j := 3) rfl
              have c4 : w10.cell? ⟨w.heap.size, 4, none⟩ = some (.int .i64 0) := HX10.out.cell (j := 4) rfl
              have c5 : w10.cell? ⟨w.heap.size, 5, none⟩ = some (.int .u64 0) := HX10.out.cell (j := 5) rfl
              have z0 := HX10.out.fz 0
              have z1 := HX10.out.fz 1
              have z2 := HX10.out.fz 2
              have z3 := HX10.out.fz 3
              have z4 := HX10.out.fz 4
              have z5 := HX10.out.fz 5
              go_wp2
              generalize hW9 : World.setCell _ _ _ = W9
              exact ret_ins rfl rfl rfl (hW9 ▸ ins_store HX10.out) rfl ⟨ro_done HEND.out.1 HEND.out.2, hW9 ▸ ins_below HB10.out (Nat.le_refl _)⟩
      · exact absurd ⟨hN, hK⟩ HNK.out
end Go.Proofs.YtiidkgdlngcpgaaGreatDoor

namespace Go.Proofs.YtiidkgdlngcpgaaGreatDoor
open Go.RowKit Ieee

theorem results_cell_tmp2 {fn : Func} {p u q : Tmp} {ty : TypeId} (h : fn.results = #[.cell p ty, .tmp u, .tmp q]) (tmps : Array Value) (P : Program) (w : World) :
    (results fn tmps).run P w =
      ((asAddr (tmps.getD p undef)).run P w).andThen fun a w₁ => ((loadVar ty a).run P w₁).andThen fun v w₂ => .ok (.tuple #[v, tmps.getD u undef, tmps.getD q undef]) w₂ := by
  simp only [results, h]
  simp [Sem.run_bind, Result.andThen]
theorem ret_cell_tmp2 {P : Program} {fn : Func} {R : Ending → World → Prop} {a : Act} {w : World} {p u q : Tmp} {ty t : TypeId} {d : TypeDesc} (h : fn.results = #[.cell p ty, .tmp u, .tmp q]) {g : Nat} {cs : Array Value} {fr : Nat × Nat} {x y : Value}
    (hp : a.tmps.getD p undef = .pointer (some ⟨g, 0, none⟩)) (hx : a.tmps.getD u undef = x) (hy : a.tmps.getD q undef = y) (hg : w.heap[g]? = some (.cells cs t fr)) (hu : P.underlying ty = some d) (hd : (match d with | .struct _ | .array _ _ => true | _ => false) = true) (hi : (P.info? ty).map (·.size) = some cs.size) (hdef : a.defers = [])
    (hR : R (.returned (.tuple #[.agg cs, x, y])) w) : bodyPost P fn R .ret a w := by
  refine bodyPost_ret (v := .tuple #[.agg cs, x, y]) ?_ hdef hR
  rw [results_cell_tmp2 h, hp, hx, hy]
  simp only [asAddr, Sem.run_pure, Result.andThen, run_loadVar_row w g t ty cs fr d hg hu hd hi]
theorem ret_prog3 {fn : Func} {R : Ending → World → Prop} {a : Act} {w : World} (h : fn.results = #[.cell 2 24, .tmp 3, .tmp 4]) {g : Nat} {v0 v1 x y : Value}
    (hp : a.tmps.getD 2 undef = .pointer (some ⟨g, 0, none⟩)) (hx : a.tmps.getD 3 undef = x) (hy : a.tmps.getD 4 undef = y) (hg : Cells w g 24 #[v0, v1]) (hdef : a.defers = []) (hR : R (.returned (.tuple #[.agg #[v0, v1], x, y])) w) : bodyPost Tryz.prog fn R .ret a w :=
  ret_cell_tmp2 h hp hx hy hg Tryz.underlying24 rfl prog_size2 hdef hR
theorem po_bad {w w' : World} {T : List UInt8} {c : Int} {k : Nat} (h : parseT T = (c, k, 0, [])) (hb : Below w.heap.size w w') : ParseOut w T (.returned (.tuple #[.agg #[.int .i64 0, .slice none 0 0], .int .i64 c, .int .i64 (k : Nat)])) w' := by
  unfold ParseOut
  rw [h]
  exact ⟨⟨none, 0, rfl, rowI_nil _ _, fun x hx => by cases hx⟩, hb⟩
theorem set2_cells {w : World} {g : Nat} {t : TypeId} {a b a' b' : Value} (h : Cells w g t #[a', b']) : Cells ((w.setCell ⟨g, 0, none⟩ a).setCell ⟨g, 1, none⟩ b) g t #[a, b] := (h.set 0 a).set 1 b
theorem set2_below {w0 w : World} {k g : Nat} {a b : Value} (h : Below k w0 w) (hg : k ≤ g) : Below k w0 ((w.setCell ⟨g, 0, none⟩ a).setCell ⟨g, 1, none⟩ b) := (h.setCell hg a).setCell hg b
theorem meas_le {N f t : Nat} (h1 : f ≤ t) (h2 : t + 1 ≤ N) (hw : wrap64 ((t : Int) + 1) = (t : Int) + 1) : N + 1 - (intOf (Value.int .i64 (wrap64 ((t : Int) + 1)))).toNat < N + 1 - (intOf (Value.int .i64 (f : Int))).toNat := by
  rw [hw]
  show N + 1 - ((t : Int) + 1).toNat < N + 1 - (f : Int).toNat
  omega
theorem lineAt_zero (T : List UInt8) (f : Nat) : lineAt T f f = [] := by unfold lineAt; rw [Nat.sub_self]; rfl
theorem lineAt_len (T : List UInt8) (f t : Nat) : (lineAt T f t).length ≤ T.length := by
  unfold lineAt
  rw [List.length_take, List.length_drop]
  omega

set_option maxHeartbeats 8000000 in
set_option maxRecDepth 100000 in
theorem rpparse_any (T : List UInt8) (hl : T.length < 1073741800) (w : World) :
    Calls Tryz.prog 18 #[.string (strOf T)] w (ParseOut w T) := by
  have HSZ : Hid ((strOf T).size = T.length) := Lib.hid (strOf_size T)
  have HIX := Lib.hid (fun (j : Nat) (h : j < T.length) W => byte_index h W)
  have HEX := Lib.hid (show ∀ i j, (strOf T).extract i j = strOf (lineAt T i j) from fun i j => ext_mid T i j)
  have HLL := Lib.hid (show ∀ i j, (lineAt T i j).length < 1073741800 from fun i j => Nat.lt_of_le_of_lt (lineAt_len T i j) hl)
  obtain ⟨S, hS⟩ : ∃ S, strOf T = S := ⟨_, rfl⟩
  rw [hS] at HSZ HIX HEX ⊢
  have HTL := Lib.hid hl
  clear hS hl
  obtain ⟨i0, hi, hz0, hz1, hz2⟩ := info_parts ins_info
  have HX0 := Lib.hid (Cells.new w 24 #[.int .i64 0, .slice none 0 0])
  have HB0 := Lib.hid ((Below.refl w.heap.size w).alloc (Nat.le_refl _) (.cells #[.int .i64 0, .slice none 0 0] 24))
  go_enter Tryz.func18, Tryz.ntmps18
  go_upto_region 1 with fail
  generalize w.alloc (.cells #[.int .i64 0, .slice none 0 0] 24) = w0 at *
  go_upto_region 2 with fail
  have HP1 := Lib.hid (Cells.new w0 24 #[.int .i64 0, .slice none 0 0])
  have HX1 := Lib.hid (HX0.out.alloc (.cells #[.int .i64 0, .slice none 0 0] 24))
  have HB1 := Lib.hid (HB0.out.alloc HB0.out.size (.cells #[.int .i64 0, .slice none 0 0] 24))
  have HRP := Lib.hid (show w.heap.size < w0.heap.size from HX0.out.lt)
  clear HX0 HB0
  generalize w0.alloc (.cells #[.int .i64 0, .slice none 0 0] 24) = w1 at *
  generalize w0.heap.size = PB at *
  clear w0
  go_wp2
  go_loopw [7, 6] (fun kv fv wr => ∃ (k f fuel : Nat) (acc : List Ins) (v : Value), kv = .int .i64 (k : Int) ∧ fv = .int .i64 (f : Int) ∧ Cells wr w.heap.size 24 #[.int .i64 0, .slice none 0 0] ∧ Cells wr PB 24 #[.int .i64 (fuel : Nat), v] ∧ RowI wr w.heap.size v acc ∧ Below w.heap.size w wr ∧ PInv T k f fuel acc) (fun _ fv _ => T.length + 1 - (intOf fv).toNat)
  case atStart => exact ⟨1, 0, 0, [], .slice none 0 0, rfl, rfl, HX1.out, HP1.out, rowI_nil _ _, HB1.out, pinv_zero T⟩
  case round =>
    obtain ⟨k, f, fuel, acc, v, rfl, rfl, hX, hP, hR, hB, hI⟩ := hrel
    obtain ⟨Av, capv, rfl⟩ := hR.shape
    have HXR := Lib.hid hX
    have HPR := Lib.hid hP
    have HRR := Lib.hid hR
    have HBR := Lib.hid hB
    have HIN := Lib.hid hI
    clear hX hP hR hB HX1 HP1 HB1
    have hf0 : f ≤ T.length := hI.1
    have hk1 : 1 ≤ k := hI.2.1
    have hk2 : k ≤ f + 1 := hI.2.2.1
    have HACC := Lib.hid (show acc.length < 1073741824 from by have := hI.2.2.2.1; have := HTL.out; omega)
    clear hI
    by_cases hfl : f < T.length
    · have t1 : (f : Int) < (S.size : Int) := by have := HSZ.out; omega
      have HF := Lib.hid (show f < T.length ∧ 1 ≤ k ∧ k ≤ f + 1 from ⟨hfl, hk1, hk2⟩)
      generalize wr = wo at *
      clear wr hf0 hk1 hk2 hfl
      go_upto_region 7 with fail
      go_loopw [8] (fun tv wx => ∃ t : Nat, f ≤ t ∧ t ≤ T.length ∧ tv = .int .i64 (t : Int) ∧ (10 : UInt8) ∉ lineAt T f t ∧ wx = wo) (fun tv _ => T.length - (intOf tv).toNat)
      case atStart => exact ⟨f, Nat.le_refl _, Nat.le_of_lt HF.out.1, rfl, by rw [lineAt_zero]; simp, rfl⟩
      case round =>
        obtain ⟨t, ht1, ht2, rfl, hno, rfl⟩ := hrel
        by_cases hlt : t < T.length
        · have hx := HIX.out t hlt
          have t2 : (t : Int) < (S.size : Int) := by have := HSZ.out; omega
          have t3 : ((t : Int) == (S.size : Int)) = false := by rw [beq_eq_false_iff_ne]; have := HSZ.out; omega
          have i0' : (0 : Int) ≤ t := by omega
          have hb := byte_is (T[t]'hlt) 10 (by decide)
          by_cases hc : T[t]'hlt = 10
          · have hcn : (((T[t]'hlt).toNat : Nat) : Int) = 10 := by rw [hc]; rfl
            rw [hcn] at hx
            have HPF := Lib.hid (fun (h : k = 1) => pinv_first (h ▸ HIN.out) ht1 hlt hno hc)
            have HPN := Lib.hid (fun (h : k ≠ 1) => pinv_next HIN.out h ht1 hlt hno hc)
            have i1 : (0 : Int) ≤ f := by omega
            have i2 : (f : Int) ≤ t := by omega
            have i3 : (t : Int) ≤ (S.size : Int) := by omega
            have hwt : wrap64 ((t : Int) + 1) = (t : Int) + 1 := by unfold wrap64; have := HTL.out; omega
            have HWT := Lib.hid hwt
            have hwk : wrap64 ((k : Int) + 1) = (k : Int) + 1 := by unfold wrap64; have := HF.out; have := HTL.out; omega
            have HWK := Lib.hid hwk
            have HLT := Lib.hid (show t + 1 ≤ T.length ∧ f ≤ t ∧ T.length < 1073741800 from ⟨hlt, ht1, HTL.out⟩)
            clear hb hc hcn hno ht1 ht2 hlt hwt hwk
            go_upto_region 12 with fail
            rw [HEX.out f t]
            have HLN := Lib.hid (HLL.out f t)
            generalize lineAt T f t = Ln at *
            clear hx t2 t3 i1 i2 i3 HIX HEX HLL
            by_cases hk : k = 1
            · obtain ⟨hbad, hgood⟩ := HPF.out hk
              have HBAD := Lib.hid hbad
              have HGOOD := Lib.hid hgood
              clear HPF HPN hbad hgood
              subst hk
              have HFW := Lib.hid (fuel_words Ln)
              have kw := rwords_any Ln (by have := HLN.out; omega) wr
              obtain ⟨ws, hws⟩ : ∃ ws, spl 32 Ln = ws := ⟨_, rfl⟩
              have HN1 := Lib.hid (show (ws.getD 1 []).length < 1073741800 from by rw [← hws]; exact Nat.lt_of_le_of_lt (spl_getD_len 32 Ln 1) HLN.out)
              rw [hws] at HFW kw
              clear hws
              generalize hwn : ws.length = wn at *
              have HWN := Lib.hid hwn
              clear hwn
              have KW := Lib.hid kw
              clear kw
              go_upto_region 15 with (go_at_call 41; refine KW.out.mono ?_; rintro _ w7 ⟨⟨g, cap, rfl, hrow⟩, hb7⟩; have HW7 := Lib.hid hrow; have HX7 := Lib.hid (HXR.out.keep hb7); have HP7 := Lib.hid (HPR.out.keep hb7); have HR7 := Lib.hid (HRR.out.keep hb7); have HB7 := Lib.hid (grow_to HBR.out hb7); clear hrow hb7)
              clear KW HXR HPR HRR HBR
              have c0 : w7.cell? ⟨w.heap.size, 0, none⟩ = some (.int .i64 0) := HX7.out.cell (j := 0) rfl
              have c1 : w7.cell? ⟨w.heap.size, 1, none⟩ = some (.slice none 0 0) := HX7.out.cell (j := 1) rfl
              have z0 := HX7.out.fz 0
              have z1 := HX7.out.fz 1
              by_cases h2 : wn = 2
              · have t5 : ((wn : Int) != 2) = false := by rw [bne_eq_false_iff_eq]; omega
                have t6 : (0 : Int) < wn := by omega
                have t7 : (1 : Int) < wn := by omega
                have p0 : w7.cell? ⟨g, 0, none⟩ = some (.string (strOf (ws.getD 0 []))) := HW7.out.word 0 (by rw [HWN.out]; omega)
                have p1 : w7.cell? ⟨g, 1, none⟩ = some (.string (strOf (ws.getD 1 []))) := HW7.out.word 1 (by rw [HWN.out]; omega)
                by_cases hfu : ws.getD 0 [] = [102, 117, 101, 108]
                · rw [hfu] at p0
                  have HFO : Hid (fuelOf Ln = numOf (ws.getD 1 [])) := Lib.hid (by rw [HFW.out, if_pos ⟨h2, hfu⟩])
                  have s1 : ((strOf [102, 117, 101, 108]).toList == [102, 117, 101, 108]) = true := by rw [str_toList]; rfl
                  have s2 : ((strOf [102, 117, 101, 108]).toList != [102, 117, 101, 108]) = false := by rw [str_toList]; rfl
                  have kn := rnumber_any (ws.getD 1 []) (by have := HN1.out; omega) w7
                  rw [← HFO.out] at kn
                  have KN := Lib.hid kn
                  clear kn hfu h2 HFW HFO
                  generalize strOf (ws.getD 1 []) = S1 at *
                  go_upto_region 18 with (go_at_call 42; refine KN.out.mono ?_; rintro _ w8 ⟨⟨nn, rfl, hnn⟩, hb8⟩; have HNN := Lib.hid hnn; have HX8 := Lib.hid (HX7.out.keep hb8); have HP8 := Lib.hid (HP7.out.keep hb8); have HR8 := Lib.hid (HR7.out.keep hb8); have HB8 := Lib.hid (grow_to HB7.out hb8); clear hnn hb8)
                  clear KN HX7 HP7 HR7 HB7 HW7 c0 c1 z0 z1 p0 p1
                  cases hfo : fuelOf Ln with
                  | none =>
                    have HBD := Lib.hid (HBAD.out hfo)
                    have c0 : w8.cell? ⟨w.heap.size, 0, none⟩ = some (.int .i64 0) := HX8.out.cell (j := 0) rfl
                    have c1 : w8.cell? ⟨w.heap.size, 1, none⟩ = some (.slice none 0 0) := HX8.out.cell (j := 1) rfl
                    have z0 := HX8.out.fz 0
                    have z1 := HX8.out.fz 1
                    clear hfo HBAD HGOOD HNN
                    go_wp2
                    generalize hW9 : World.setCell _ _ _ = W9
                    exact ret_prog3 rfl rfl rfl rfl (hW9 ▸ set2_cells HX8.out) rfl (po_bad HBD.out (hW9 ▸ set2_below HB8.out (Nat.le_refl _)))
                  | some m =>
                    have HPI := Lib.hid (HGOOD.out m hfo)
                    have hnm : nn = (m : Int) := HNN.out m hfo
                    subst hnm
                    have p0 : w8.cell? ⟨PB, 0, none⟩ = some (.int .i64 (fuel : Nat)) := HP8.out.cell (j := 0) rfl
                    have z0 := HP8.out.fz 0
                    clear hfo HBAD HGOOD HNN
                    go_wp2
                    refine ⟨⟨2, t + 1, m, acc, .slice Av acc.length capv, by first | exact up_val HWK.out | rfl, by first | exact up_val HWT.out | rfl, HX8.out.far (a := ⟨PB, 0, none⟩) (Nat.ne_of_lt HRP.out) _, HP8.out.set 0 _, HR8.out.turns (S := [PB]) ((Turns.refl _ w8).set (p := ⟨PB, 0, none⟩) (.inl (by simp)) _) (fun k hk => by simpa using HR8.out.ne HP8.out (by decide) k hk), HB8.out.setCell (p := ⟨PB, 0, none⟩) (Nat.le_of_lt HRP.out) _, HPI.out⟩, meas_le HLT.out.2.1 HLT.out.1 HWT.out⟩
                · have t8 : ((strOf (ws.getD 0 [])).toList == [102, 117, 101, 108]) = false := by rw [str_toList, beq_eq_false_iff_ne]; exact hfu
                  have t9 : ((strOf (ws.getD 0 [])).toList != [102, 117, 101, 108]) = true := by rw [str_toList, bne_iff_ne]; exact hfu
                  have HBD := Lib.hid (HBAD.out (by rw [HFW.out, if_neg (fun h => hfu h.2)]))
                  clear hfu h2 HFW HBAD HGOOD
                  generalize strOf (ws.getD 0 []) = S0 at *
                  go_wp2
                  generalize hW9 : World.setCell _ _ _ = W9
                  exact ret_prog3 rfl rfl rfl rfl (hW9 ▸ set2_cells HX7.out) rfl (po_bad HBD.out (hW9 ▸ set2_below HB7.out (Nat.le_refl _)))
              · have t5 : ((wn : Int) != 2) = true := by rw [bne_iff_ne]; omega
                have HBD := Lib.hid (HBAD.out (by rw [HFW.out, if_neg (fun h => h2 h.1)]))
                clear h2 HFW HBAD HGOOD
                go_wp2
                generalize hW9 : World.setCell _ _ _ = W9
                exact ret_prog3 rfl rfl rfl rfl (hW9 ▸ set2_cells HX7.out) rfl (po_bad HBD.out (hW9 ▸ set2_below HB7.out (Nat.le_refl _)))
            · obtain ⟨hbad, hgood⟩ := HPN.out hk
              have HBAD := Lib.hid hbad
              have HGOOD := Lib.hid hgood
              have t4 : ((k : Int) == 1) = false := by rw [beq_eq_false_iff_ne]; omega
              have kr := rread_any Ln (by have := HLN.out; omega) wr
              have KR := Lib.hid kr
              clear HPF HPN hbad hgood kr hk
              go_upto_region 22 with (go_at_call 43; refine KR.out.mono ?_; rintro _ w7 ⟨⟨x, rfl, hx⟩, hb7⟩; have HXX := Lib.hid hx; have HX7 := Lib.hid (HXR.out.keep hb7); have HP7 := Lib.hid (HPR.out.keep hb7); have HR7 := Lib.hid (HRR.out.keep hb7); have HB7 := Lib.hid (grow_to HBR.out hb7); clear hx hb7)
              have HI8 := Lib.hid (Cells.new w7 43 #[.int .i64 x.op, .int .i64 x.a, .int .i64 x.b, .int .i64 x.c, .int .i64 x.n, .int .u64 (x.k : Nat)])
              have HX8 := Lib.hid (HX7.out.alloc (.cells #[.int .i64 x.op, .int .i64 x.a, .int .i64 x.b, .int .i64 x.c, .int .i64 x.n, .int .u64 (x.k : Nat)] 43))
              have HP8 := Lib.hid (HP7.out.alloc (.cells #[.int .i64 x.op, .int .i64 x.a, .int .i64 x.b, .int .i64 x.c, .int .i64 x.n, .int .u64 (x.k : Nat)] 43))
              have HR8 : Hid (RowI (w7.alloc (.cells #[.int .i64 x.op, .int .i64 x.a, .int .i64 x.b, .int .i64 x.c, .int .i64 x.n, .int .u64 (x.k : Nat)] 43)) w.heap.size (.slice Av acc.length capv) acc) := Lib.hid (HR7.out.keep ((Below.refl w7.heap.size w7).alloc (Nat.le_refl _) _))
              have HB8 := Lib.hid (HB7.out.alloc HB7.out.size (.cells #[.int .i64 x.op, .int .i64 x.a, .int .i64 x.b, .int .i64 x.c, .int .i64 x.n, .int .u64 (x.k : Nat)] 43))
              clear KR HX7 HP7 HR7 HB7 HXR HPR HRR HBR
              generalize w7.alloc (.cells #[.int .i64 x.op, .int .i64 x.a, .int .i64 x.b, .int .i64 x.c, .int .i64 x.n, .int .u64 (x.k : Nat)] 43) = w8 at *
              generalize w7.heap.size = GX at *
              clear w7
              cases hrd : readIns Ln with
              | none =>
                have HBD := Lib.hid (HBAD.out hrd)
                have c0 : w8.cell? ⟨w.heap.size, 0, none⟩ = some (.int .i64 0) := HX8.out.cell (j := 0) rfl
                have c1 : w8.cell? ⟨w.heap.size, 1, none⟩ = some (.slice none 0 0) := HX8.out.cell (j := 1) rfl
                have z0 := HX8.out.fz 0
                have z1 := HX8.out.fz 1
                clear hrd HBAD HGOOD HXX
                go_wp2
                generalize hW9 : World.setCell _ _ _ = W9
                exact ret_prog3 rfl rfl rfl rfl (hW9 ▸ set2_cells HX8.out) rfl (po_bad HBD.out (hW9 ▸ set2_below HB8.out (Nat.le_refl _)))
              | some y =>
                have HPI := Lib.hid (HGOOD.out y hrd)
                have hxy : x = y := HXX.out y hrd
                subst hxy
                obtain ⟨xo, xa, xb, xc, xn, xk⟩ := x
                dsimp only at HI8
                have p1 : w8.cell? ⟨PB, 1, none⟩ = some (.slice Av acc.length capv) := HP8.out.cell (j := 1) rfl
                have d0 : w8.cell? ⟨GX, 0, none⟩ = some (.int .i64 xo) := HI8.out.cell (j := 0) rfl
                have d1 : w8.cell? ⟨GX, 1, none⟩ = some (.int .i64 xa) := HI8.out.cell (j := 1) rfl
                have d2 : w8.cell? ⟨GX, 2, none⟩ = some (.int .i64 xb) := HI8.out.cell (j := 2) rfl
                have d3 : w8.cell? ⟨GX, 3, none⟩ = some (.int .i64 xc) := HI8.out.cell (j := 3) rfl
                have d4 : w8.cell? ⟨GX, 4, none⟩ = some (.int .i64 xn) := HI8.out.cell (j := 4) rfl
                have d5 : w8.cell? ⟨GX, 5, none⟩ = some (.int .u64 (xk : Nat)) := HI8.out.cell (j := 5) rfl
                clear hrd HBAD HGOOD HXX
                go_wp2_with (at_builtin; go_loud (refine wpList_append_elem' rfl _ _ _ rfl w.heap.size 43 i0 _ 6 48 Tryz.underlying22 hi hz0 hz1 hz2 rfl (by decide) (.slice Av acc.length capv) acc.length (acc.flatMap insVals) rfl (show w8.ownsRow w.heap.size 43 6 (.slice Av acc.length capv) acc.length (acc.flatMap insVals) from HR8.out) #[.int .i64 xo, .int .i64 xa, .int .i64 xb, .int .i64 xc, .int .i64 xn, .int .u64 (xk : Nat)] rfl (by simp [Value.oneCell']) _ rfl rfl HACC.out (by decide) HB8.out.size ?_); intro v' w9 hown hgrow hat; obtain ⟨g', cap', rfl⟩ := ownsRow_succ hown; have HX9 := Lib.hid (HX8.out.grown hgrow (fun e => HR8.out.ne HX8.out (by decide) _ e.symm rfl)); have HP9 := Lib.hid (HP8.out.grown hgrow (fun e => HR8.out.ne HP8.out (by decide) _ e.symm rfl)); have HR9 : Hid (RowI w9 w.heap.size (.slice (some ⟨g', 0, none⟩) (acc.length + 1) cap') (acc ++ [⟨xo, xa, xb, xc, xn, xk⟩])) := Lib.hid (rowI_snoc hown); have HB9 := Lib.hid (HB8.out.grown hgrow HB8.out.size (fun k hk => (World.ownsRow.lt HR8.out k hk).1)); have u1 := HP9.out.cell (j := 1) rfl; have z1 := HP9.out.fz 1; clear hown hgrow hat)
                refine ⟨⟨k + 1, t + 1, fuel, acc ++ [⟨xo, xa, xb, xc, xn, xk⟩], .slice (some ⟨g', 0, none⟩) (acc.length + 1) cap', by first | exact up_val HWK.out | rfl, by first | exact up_val HWT.out | rfl, HX9.out.far (a := ⟨PB, 1, none⟩) (Nat.ne_of_lt HRP.out) _, HP9.out.set 1 _, HR9.out.turns (S := [PB]) ((Turns.refl _ w9).set (p := ⟨PB, 1, none⟩) (.inl (by simp)) _) (fun k hk => by simpa using HR9.out.ne HP9.out (by decide) k hk), HB9.out.setCell (p := ⟨PB, 1, none⟩) (Nat.le_of_lt HRP.out) _, HPI.out⟩, meas_le HLT.out.2.1 HLT.out.1 HWT.out⟩
          · have t4 : ((((T[t]'hlt).toNat : Nat) : Int) != 10) = true := by
              rw [bne_iff_ne]
              intro e
              exact hc (UInt8.toNat_inj.1 (by show (T[t]'hlt).toNat = 10; omega))
            have HNO := Lib.hid (line_more ht1 hlt hno hc)
            have HL2 := Lib.hid (show f ≤ t + 1 ∧ t + 1 ≤ T.length ∧ t < T.length from ⟨by omega, hlt, hlt⟩)
            have hwt : wrap64 ((t : Int) + 1) = (t : Int) + 1 := by unfold wrap64; have := HTL.out; omega
            have HWT := Lib.hid hwt
            generalize (T[t]'hlt) = c at *
            clear hb hc hno ht1 ht2 hwt
            go_wp2
            exact ⟨⟨t + 1, HL2.out.1, HL2.out.2.1, by first | exact up_val HWT.out | rfl, HNO.out, by first | rfl | trivial⟩, by first | exact up_end HL2.out.2.2 HWT.out | (have hh := HL2.out; simp [intOf]; omega)⟩
        · have t2 : ¬ (t : Int) < (S.size : Int) := by have := HSZ.out; omega
          have t3 : ((t : Int) == (S.size : Int)) = true := by rw [beq_iff_eq]; have := HSZ.out; omega
          have HBD := Lib.hid (pinv_open HIN.out (.inl HF.out.1) (by rw [show T.length = t by omega]; exact hno))
          have c0 : wr.cell? ⟨w.heap.size, 0, none⟩ = some (.int .i64 0) := HXR.out.cell (j := 0) rfl
          have c1 : wr.cell? ⟨w.heap.size, 1, none⟩ = some (.slice none 0 0) := HXR.out.cell (j := 1) rfl
          have z0 := HXR.out.fz 0
          have z1 := HXR.out.fz 1
          clear hno ht1 ht2 hlt
          go_wp2
          generalize hW9 : World.setCell _ _ _ = W9
          exact ret_prog3 rfl rfl rfl rfl (hW9 ▸ set2_cells HXR.out) rfl (po_bad HBD.out (hW9 ▸ set2_below HBR.out (Nat.le_refl _)))
    · have t1 : ¬ (f : Int) < (S.size : Int) := by have := HSZ.out; omega
      by_cases hk : k = 1
      · subst hk
        have HBD := Lib.hid (pinv_open HIN.out (.inr rfl) (by rw [show T.length = f by omega, lineAt_zero]; simp))
        have HFE := Lib.hid (show f = T.length from by omega)
        have c0 : wr.cell? ⟨w.heap.size, 0, none⟩ = some (.int .i64 0) := HXR.out.cell (j := 0) rfl
        have c1 : wr.cell? ⟨w.heap.size, 1, none⟩ = some (.slice none 0 0) := HXR.out.cell (j := 1) rfl
        have z0 := HXR.out.fz 0
        have z1 := HXR.out.fz 1
        have t3 : ((f : Int) == (S.size : Int)) = true := by rw [beq_iff_eq]; have := HSZ.out; omega
        clear hfl hf0 hk1 hk2
        generalize wr = wo at *
        clear wr
        go_upto_region 7 with fail
        go_loopw [8] (fun tv wx => tv = .int .i64 (f : Int) ∧ wx = wo) (fun _ _ => 0)
        case atStart => exact ⟨rfl, rfl⟩
        case round =>
          obtain ⟨rfl, rfl⟩ := hrel
          go_wp2
          generalize hW9 : World.setCell _ _ _ = W9
          exact ret_prog3 rfl rfl rfl rfl (hW9 ▸ set2_cells HXR.out) rfl (po_bad HBD.out (hW9 ▸ set2_below HBR.out (Nat.le_refl _)))
      · have t2 : ((k : Int) == 1) = false := by rw [beq_eq_false_iff_ne]; omega
        have HEND := Lib.hid (pinv_end HIN.out hfl hk)
        have HFU := Lib.hid (show fuel < 1000000000 from HIN.out.2.2.2.2.2.1)
        have HKK := Lib.hid HIN.out.2.2.2.2.1
        have HLA := Lib.hid (show (progCheck (fuel : Int) acc).2 ≤ acc.length from prog_at _ _)
        clear hk hfl hf0 hk1 hk2
        have HCODE := Lib.hid (HRR.out.code HKK.out)
        have kc := rcheck_any (fuel : Nat) Av acc capv wr (show CodeIn wr wr.heap.size Av acc from HCODE.out)
        have HCR : Hid (parseT T = checkRes fuel acc) := HEND
        have HDEF : Hid (checkRes fuel acc = if (progCheck fuel acc).1 = 0 then (0, 0, fuel, acc) else if (progCheck fuel acc).1 = 56 then (56, 1, 0, []) else if (progCheck fuel acc).1 = 50 then (50, 0, 0, []) else ((progCheck fuel acc).1, (progCheck fuel acc).2 + 2, 0, [])) := Lib.hid rfl
        have p0 : wr.cell? ⟨PB, 0, none⟩ = some (.int .i64 (fuel : Nat)) := HPR.out.cell (j := 0) rfl
        have p1 : wr.cell? ⟨PB, 1, none⟩ = some (.slice Av acc.length capv) := HPR.out.cell (j := 1) rfl
        generalize (progCheck (fuel : Int) acc).1 = er at *
        generalize (progCheck (fuel : Int) acc).2 = at_ at *
        have KC := Lib.hid kc
        clear kc HEND
        go_upto_region 26 with (go_at_call 13; refine KC.out.mono ?_; rintro _ w9 ⟨rfl, hb9⟩; have HX9 := Lib.hid (HXR.out.keep hb9); have HP9 := Lib.hid (HPR.out.keep hb9); have HR9 := Lib.hid (HRR.out.keep hb9); have HB9 := Lib.hid (grow_to HBR.out hb9); clear hb9)
        clear KC p0 p1 HXR HPR HRR HBR
        have c0 : w9.cell? ⟨w.heap.size, 0, none⟩ = some (.int .i64 0) := HX9.out.cell (j := 0) rfl
        have c1 : w9.cell? ⟨w.heap.size, 1, none⟩ = some (.slice none 0 0) := HX9.out.cell (j := 1) rfl
        have z0 := HX9.out.fz 0
        have z1 := HX9.out.fz 1
        have u0 : w9.cell? ⟨PB, 0, none⟩ = some (.int .i64 (fuel : Nat)) := HP9.out.cell (j := 0) rfl
        have u1 : w9.cell? ⟨PB, 1, none⟩ = some (.slice Av acc.length capv) := HP9.out.cell (j := 1) rfl
        have HLA2 := Lib.hid (show acc.length < 1073741824 from HACC.out)
        by_cases e0 : er = 0
        · have HOUT : Hid (parseT T = (0, 0, fuel, acc)) := Lib.hid (by rw [HCR.out, HDEF.out, if_pos e0])
          subst e0
          clear HCR HDEF
          go_wp2
          generalize hW9 : World.setCell _ _ _ = W9
          refine ret_prog3 rfl rfl rfl rfl (hW9 ▸ set2_cells HX9.out) rfl ?_
          unfold ParseOut
          rw [HOUT.out]
          refine ⟨⟨Av, capv, rfl, ?_, HKK.out⟩, hW9 ▸ set2_below HB9.out (Nat.le_refl _)⟩
          rw [← hW9]
          exact HR9.out.turns (S := [w.heap.size]) (((Turns.refl _ w9).set (p := ⟨w.heap.size, 0, none⟩) (.inl (by simp)) _).set (p := ⟨w.heap.size, 1, none⟩) (.inl (by simp)) _) (fun k hk => by simpa using HR9.out.ne HX9.out (by decide) k hk)
        · have b0 : (er == 0) = false := by rw [beq_eq_false_iff_ne]; exact e0
          by_cases e1 : er = 56
          · have HOUT : Hid (parseT T = (56, 1, 0, [])) := Lib.hid (by rw [HCR.out, HDEF.out, if_neg e0, if_pos e1])
            subst e1
            clear HCR HDEF e0
            go_wp2
            generalize hW9 : World.setCell _ _ _ = W9
            exact ret_prog3 rfl rfl rfl rfl (hW9 ▸ set2_cells HX9.out) rfl (po_bad HOUT.out (hW9 ▸ set2_below HB9.out (Nat.le_refl _)))
          · have b1 : (er == 56) = false := by rw [beq_eq_false_iff_ne]; exact e1
            by_cases e2 : er = 50
            · have HOUT : Hid (parseT T = (50, 0, 0, [])) := Lib.hid (by rw [HCR.out, HDEF.out, if_neg e0, if_neg e1, if_pos e2])
              subst e2
              clear HCR HDEF e0 e1
              go_wp2
              generalize hW9 : World.setCell _ _ _ = W9
              exact ret_prog3 rfl rfl rfl rfl (hW9 ▸ set2_cells HX9.out) rfl (po_bad HOUT.out (hW9 ▸ set2_below HB9.out (Nat.le_refl _)))
            · have b2 : (er == 50) = false := by rw [beq_eq_false_iff_ne]; exact e2
              have HOUT : Hid (parseT T = (er, at_ + 2, 0, [])) := Lib.hid (by rw [HCR.out, HDEF.out, if_neg e0, if_neg e1, if_neg e2])
              have hwa : wrap64 ((at_ : Int) + 2) = ((at_ + 2 : Nat) : Int) := by have := HLA.out; have := HLA2.out; unfold wrap64; omega
              have HWA := Lib.hid hwa
              clear HCR HDEF e0 e1 e2 hwa
              go_wp2
              generalize hW9 : World.setCell _ _ _ = W9
              exact ret_prog3 (y := .int .i64 ((at_ + 2 : Nat) : Int)) rfl rfl rfl (show Value.int .i64 (wrap64 ((at_ : Int) + 2)) = .int .i64 ((at_ + 2 : Nat) : Int) from congrArg _ HWA.out) (hW9 ▸ set2_cells HX9.out) rfl (po_bad HOUT.out (hW9 ▸ set2_below HB9.out (Nat.le_refl _)))
end Go.Proofs.YtiidkgdlngcpgaaGreatDoor
