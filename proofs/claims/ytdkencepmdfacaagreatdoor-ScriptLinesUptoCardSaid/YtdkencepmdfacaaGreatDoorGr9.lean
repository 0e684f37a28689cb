/- Steps and configs compared; (*strings.Builder).Len; the document's SameSteps (contracts). What the readers of a script's words reckon on the way: numbers and bytes (plain). -/
import Derived.BigQuiet
import Derived.Test.YtdkencepmdfacaaGreatDoorGr7
import Derived.Test.YtdkencepmdfacaaGreatDoorPw
import Derived.Test.YtdkencepmdfacaaGreatDoorSd
set_option maxRecDepth 100000
namespace Go.Proofs.YtdkencepmdfacaaGreatDoor
open Go.RowKit Ieee

def Stp.val (s : Stp) : Value := .agg #[.int .i64 s.kind, .int .i64 s.a, .int .i64 s.k, .int .i64 s.x, .string s.str]
theorem step_str {a b : List UInt8} : ((⟨a.toArray⟩ : ByteArray).toList == (⟨b.toArray⟩ : ByteArray).toList) = decide (a = b) := by
  rw [ByteArray.toList_eq, ByteArray.toList_eq]
  by_cases h : a = b
  · subst h; simp
  · rw [decide_eq_false h, beq_eq_false_iff_ne]
    simpa using h
theorem step_neq (x y : Stp) (w : World) : (binOp .neq 34 (.agg #[.int .i64 x.kind, .int .i64 x.a, .int .i64 x.k, .int .i64 x.x, .string x.str]) (.agg #[.int .i64 y.kind, .int .i64 y.a, .int .i64 y.k, .int .i64 y.x, .string y.str])).run Tryz.prog w = .ok (.bool (!decide (x = y))) w := by
  unfold Stp.str
  simp only [go_sem, step_str]
  obtain ⟨a1, a2, a3, a4, a5⟩ := x
  obtain ⟨b1, b2, b3, b4, b5⟩ := y
  simp only [Stp.mk.injEq]
  by_cases h1 : a1 = b1 <;> by_cases h2 : a2 = b2 <;> by_cases h3 : a3 = b3 <;> by_cases h4 : a4 = b4 <;> by_cases h5 : a5 = b5 <;> simp [h1, h2, h3, h4, h5, go_sem]
theorem step_neq2 (x y : Stp) (w : World) : (binOp .neq 34 x.val y.val).run Tryz.prog w = .ok (.bool (!decide (x = y))) w := step_neq x y w
theorem cfg_neq (x y : Cfg) (w : World) : (binOp .neq 23 x.val y.val).run Tryz.prog w = .ok (.bool (!decide (x = y))) w := by
  unfold Cfg.val
  simp only [go_sem]
  obtain ⟨a1, a2, a3, a4, a5, a6, a7, a8, a9⟩ := x
  obtain ⟨b1, b2, b3, b4, b5, b6, b7, b8, b9⟩ := y
  simp only [Cfg.mk.injEq]
  by_cases h1 : a1 = b1
  · by_cases h2 : a2 = b2
    · by_cases h3 : a3 = b3
      · by_cases h4 : a4 = b4
        · by_cases h5 : a5 = b5
          · by_cases h6 : a6 = b6
            · by_cases h7 : a7 = b7
              · by_cases h8 : a8 = b8
                · by_cases h9 : a9 = b9 <;> simp [h1, h2, h3, h4, h5, h6, h7, h8, h9, go_sem]
                · simp [h1, h2, h3, h4, h5, h6, h7, h8, go_sem]
              · simp [h1, h2, h3, h4, h5, h6, h7, go_sem]
            · simp [h1, h2, h3, h4, h5, h6, go_sem]
          · simp [h1, h2, h3, h4, h5, go_sem]
        · simp [h1, h2, h3, h4, go_sem]
      · simp [h1, h2, h3, go_sem]
    · simp [h1, h2, go_sem]
  · simp [h1, go_sem]

theorem blen_any {w : World} {b : Nat} {l : List UInt8} (h : Bd w b l) : Calls Tryz.prog 20 #[.pointer (some ⟨b, 0, none⟩)] w fun e w' => e = .returned (.int .i64 (l.length : Nat)) ∧ w' = w := by
  have key : ∃ A cap, w.cell? ⟨b, 1, none⟩ = some (.slice A l.length cap) := by
    have h2 : ∀ p, Lib.BuilderAtF 45 5 b b p (Lib.byteCells l) w → ∃ A cap, w.cell? ⟨b, 1, none⟩ = some (.slice A l.length cap) := by
      rintro p ⟨_, v, hb, hown, _⟩
      have hc : Cells w b 45 #[p, v] := hb
      have hl : (Lib.byteCells l).length = l.length := Lib.byteCells_length l
      rcases hown.2 with ⟨e1, e2⟩ | ⟨g, cap, cur, fz, e1, _⟩
      · rw [hl] at e2
        exact ⟨none, 0, by rw [hc.cell (j := 1) (v := v) rfl, e1, e2]⟩
      · rw [hl] at e1
        exact ⟨_, cap, by rw [hc.cell (j := 1) (v := v) rfl, e1]⟩
    exact h.elim (h2 _) (h2 _)
  obtain ⟨A, cap, hc⟩ := key
  go_enter Tryz.func20, Tryz.ntmps20
  go_wp2
  go_ret
  exact ⟨rfl, rfl⟩

theorem slist_same {l m : List Stp} (h : l.length = m.length) (hall : ∀ k : Nat, k < l.length → l[k]? = m[k]?) : l = m := by
  apply List.ext_getElem?
  intro k
  by_cases hk : k < l.length
  · exact hall k hk
  · rw [List.getElem?_eq_none (by omega), List.getElem?_eq_none (by omega)]

set_option maxHeartbeats 4000000 in
set_option maxRecDepth 100000 in
theorem ssame_any (A1 A2 : Option Addr) (l1 l2 : List Stp) (n1 n2 : Nat) (w : World) (h1 : StepsIn w w.heap.size A1 l1) (h2 : StepsIn w w.heap.size A2 l2) (hl : l1.length < 1073741824) :
    Calls Tryz.prog 12 #[.slice A1 l1.length n1, .slice A2 l2.length n2] w fun e w' => e = .returned (.bool (decide (l1 = l2))) ∧ Below w.heap.size w w' := by
  have H1 := Lib.hid h1
  have H2 := Lib.hid h2
  obtain ⟨res, hres⟩ : ∃ res, decide (l1 = l2) = res := ⟨_, rfl⟩
  rw [hres]
  have HRES := Lib.hid hres
  clear h1 h2 hres
  obtain ⟨len, hlen⟩ : ∃ len, l1.length = len := ⟨_, rfl⟩
  obtain ⟨len2, hlen2⟩ : ∃ len, l2.length = len := ⟨_, rfl⟩
  have HL := Lib.hid hlen
  have HL2 := Lib.hid hlen2
  rw [hlen, hlen2]
  rw [hlen] at hl
  clear hlen hlen2
  by_cases hn : len = len2
  case neg =>
    have t : ((len : Int) != len2) = true := by rw [bne_iff_ne]; omega
    have e0 : res = false := HRES.out.symm.trans (decide_eq_false fun h => hn (by rw [← HL.out, ← HL2.out, h]))
    rw [e0]
    clear e0 hn
    go_enter Tryz.func12, Tryz.ntmps12
    go_wp2
    go_ret
    exact ⟨rfl, Below.refl _ _⟩
  subst hn
  have tn : ((len : Int) != len) = false := by rw [bne_eq_false_iff_eq]
  go_enter Tryz.func12, Tryz.ntmps12
  go_wp2
  clear tn
  go_loopw [5] (fun iv wr => ∃ i : Nat, i ≤ len ∧ iv = .int .i64 (i : Int) ∧ (∃ n, wr = w.drewN n) ∧ ∀ k : Nat, k < i → l1[k]? = l2[k]?) (fun iv _ => len - (intOf iv).toNat)
  case atStart => exact ⟨0, Nat.zero_le _, rfl, ⟨0, rfl⟩, fun k hk => absurd hk (by omega)⟩
  case round =>
    obtain ⟨i, hi, rfl, ⟨dn, hdn⟩, hk⟩ := hrel
    have HBr := Lib.hid (show Below w.heap.size w wr from hdn ▸ below_drewN (Below.refl _ _) dn)
    have HDN := Lib.hid hdn
    have HK := Lib.hid hk
    clear hdn hk
    by_cases hlt : i < len
    · obtain ⟨x, hx⟩ : ∃ x, l1[i]? = some x := ⟨l1[i]'(by rw [HL.out]; exact hlt), List.getElem?_eq_getElem _⟩
      obtain ⟨y, hy⟩ : ∃ y, l2[i]? = some y := ⟨l2[i]'(by rw [HL2.out]; exact hlt), List.getElem?_eq_getElem _⟩
      obtain ⟨b, off, rfl, hb, hc⟩ := H1.out (by rw [HL.out]; omega)
      obtain ⟨b', off', rfl, hb', hc'⟩ := H2.out (by rw [HL2.out]; omega)
      obtain ⟨c0, c1, c2, c3, c4⟩ := ((hc i x hx).1.keep HBr.out hb)
      obtain ⟨d0, d1, d2, d3, d4⟩ := ((hc' i y hy).1.keep HBr.out hb')
      have hq := fun W => step_neq x y W
      have HXE := Lib.hid hx
      have HYE := Lib.hid hy
      have i0 : (0 : Int) ≤ i := by omega
      have i1 : (i : Int) < len := by omega
      have hwi : wrap64 ((i : Int) + 1) = (i : Int) + 1 := by unfold wrap64; omega
      have HLT := Lib.hid hlt
      clear hc hc' hx hy hlt hi hl
      by_cases hxy : x = y
      · have HK2 : Hid (∀ k : Nat, k < i + 1 → l1[k]? = l2[k]?) := Lib.hid fun k hk => by
          rcases Nat.lt_or_ge k i with h | h
          · exact HK.out k h
          · obtain rfl : k = i := by omega
            rw [HXE.out, HYE.out, hxy]
        rw [decide_eq_true hxy] at hq
        clear hxy
        generalize x.kind = xo at *; generalize x.a = xa at *; generalize x.k = xk at *; generalize x.x = xx at *; generalize x.str = xs at *
        generalize y.kind = yo at *; generalize y.a = ya at *; generalize y.k = yk at *; generalize y.x = yx at *; generalize y.str = ys at *
        go_wp2
        go_quiet (fail)
        go_wp2
        refine ⟨⟨i + 1, HLT.out, up_val hwi, ?_, HK2.out⟩, up_end HLT.out hwi⟩
        rw [HDN.out]
        exact ⟨_, by rw [World.drewN_drewN]⟩
      · have e0 : res = false := HRES.out.symm.trans (decide_eq_false fun h => hxy (by
          have := HXE.out
          rw [h, HYE.out] at this
          injection this with this
          exact this.symm))
        rw [decide_eq_false hxy] at hq
        have HE0 := Lib.hid e0
        clear hxy e0
        generalize x.kind = xo at *; generalize x.a = xa at *; generalize x.k = xk at *; generalize x.x = xx at *; generalize x.str = xs at *
        generalize y.kind = yo at *; generalize y.a = ya at *; generalize y.k = yk at *; generalize y.x = yx at *; generalize y.str = ys at *
        go_wp2
        go_quiet (fail)
        go_wp2
        go_ret
        exact ⟨by rw [HE0.out]; rfl, below_drewN HBr.out _⟩
    · obtain rfl : i = len := by omega
      have i1 : ¬ (i : Int) < i := by omega
      have e0 : res = true := HRES.out.symm.trans (decide_eq_true (slist_same (HL.out.trans HL2.out.symm) (fun k hk => HK.out k (by rw [HL.out] at hk; exact hk))))
      have HE0 := Lib.hid e0
      clear e0
      go_wp2
      go_ret
      exact ⟨by rw [HE0.out]; rfl, HBr.out⟩
end Go.Proofs.YtdkencepmdfacaaGreatDoor

set_option maxRecDepth 100000
namespace Go.Proofs.YtdkencepmdfacaaGreatDoor
open Ieee

/-! ### the document's value -/
theorem itoa_len20 {n : Int} (h : w64 n) : (Lib.itoa n).length ≤ 20 := by
  unfold w64 at h
  unfold Lib.itoa
  split
  · rw [List.length_cons, Lib.decDigits_length]
    have := digits_le 18 n.natAbs (by have e : (10 : Nat) ^ (18 + 1) = 10000000000000000000 := by decide
                                      omega)
    omega
  · rw [Lib.decDigits_length]
    have := digits_le 18 n.toNat (by have e : (10 : Nat) ^ (18 + 1) = 10000000000000000000 := by decide
                                     omega)
    omega
/-! ### bytes -/
end Go.Proofs.YtdkencepmdfacaaGreatDoor
