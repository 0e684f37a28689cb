/- The document's Same; gafferlaw05's example, known, names, awake (contracts). -/
import Derived.Test.YtiidkgdlngcpgaaGreatDoorPz
import Derived.Test.YtiidkgdlngcpgaaGreatDoorPu
import Derived.Test.YtiidkgdlngcpgaaGreatDoorPp
import Derived.Test.YtiidkgdlngcpgaaGreatDoorPc
set_option maxRecDepth 100000
namespace Go.Proofs.YtiidkgdlngcpgaaGreatDoor
open Go.RowKit Ieee

instance insDec : DecidableEq Ins := fun x y => decidable_of_iff (x.op = y.op ∧ x.a = y.a ∧ x.b = y.b ∧ x.c = y.c ∧ x.n = y.n ∧ x.k = y.k) ⟨fun h => by
  obtain ⟨h1, h2, h3, h4, h5, h6⟩ := h
  cases x
  cases y
  simp only at h1 h2 h3 h4 h5 h6
  subst h1 h2 h3 h4 h5 h6
  rfl, fun h => by subst h; exact ⟨rfl, rfl, rfl, rfl, rfl, rfl⟩⟩
theorem ins_neq (x y : Ins) (w : World) : (binOp .neq 43 (.agg #[.int .i64 x.op, .int .i64 x.a, .int .i64 x.b, .int .i64 x.c, .int .i64 x.n, .int .u64 x.k]) (.agg #[.int .i64 y.op, .int .i64 y.a, .int .i64 y.b, .int .i64 y.c, .int .i64 y.n, .int .u64 y.k])).run Tryz.prog w = .ok (.bool (!decide (x = y))) w := by
  simp [go_sem]
  by_cases h : x = y
  · subst h
    simp
  · rw [decide_eq_false h]
    repeat' split
    all_goals first | rfl | skip
    exfalso
    apply h
    cases x
    cases y
    simp only at *
    simp only [Ins.mk.injEq]
    refine ⟨?_, ?_, ?_, ?_, ?_, ?_⟩ <;> first | assumption | omega
theorem list_same {l m : List Ins} (h : l.length = m.length) (hall : ∀ k : Nat, k < l.length → l[k]? = m[k]?) : l = m := by
  apply List.ext_getElem?
  intro k
  by_cases hk : k < l.length
  · exact hall k hk
  · rw [List.getElem?_eq_none (by omega), List.getElem?_eq_none (by omega)]

set_option maxHeartbeats 4000000 in
set_option maxRecDepth 100000 in
theorem same_any (f1 f2 : Int) (A1 A2 : Option Addr) (l1 l2 : List Ins) (n1 n2 : Nat) (w : World) (h1 : CodeIn w w.heap.size A1 l1) (h2 : CodeIn w w.heap.size A2 l2) (hl : l1.length < 1073741824) :
    Calls Tryz.prog 19 #[.agg #[.int .i64 f1, .slice A1 l1.length n1], .agg #[.int .i64 f2, .slice A2 l2.length n2]] w fun e w' => e = .returned (.bool (decide (f1 = f2 ∧ l1 = l2))) ∧ Below w.heap.size w w' := by
  have HX := Lib.hid ((Cells.new w 24 #[.int .i64 f1, .slice A1 l1.length n1]).alloc (.cells #[.int .i64 f2, .slice A2 l2.length n2] 24))
  have HY := Lib.hid (Cells.newAt (w.alloc (.cells #[.int .i64 f1, .slice A1 l1.length n1] 24)) 24 #[.int .i64 f2, .slice A2 l2.length n2] (w.heap.size + 1) (by simp))
  have HB := Lib.hid (((Below.refl w.heap.size w).alloc (Nat.le_refl _) (.cells #[.int .i64 f1, .slice A1 l1.length n1] 24)).alloc (by simp) (.cells #[.int .i64 f2, .slice A2 l2.length n2] 24))
  have H1 := Lib.hid h1
  have H2 := Lib.hid h2
  obtain ⟨res, hres⟩ : ∃ res, decide (f1 = f2 ∧ l1 = l2) = res := ⟨_, rfl⟩
  rw [hres]
  have HRES := Lib.hid hres
  clear h1 h2 hres
  obtain ⟨len, hlen⟩ : ∃ len, l1.length = len := ⟨_, rfl⟩
  obtain ⟨len2, hlen2⟩ : ∃ len, l2.length = len := ⟨_, rfl⟩
  have HL := Lib.hid hlen
  have HL2 := Lib.hid hlen2
  rw [hlen, hlen2] at HX HY HB ⊢
  rw [hlen] at hl
  clear hlen hlen2
  have x0 : ((w.alloc (.cells #[.int .i64 f1, .slice A1 len n1] 24)).alloc (.cells #[.int .i64 f2, .slice A2 len2 n2] 24)).cell? ⟨w.heap.size, 0, none⟩ = some (.int .i64 f1) := HX.out.cell (j := 0) rfl
  have x1 : ((w.alloc (.cells #[.int .i64 f1, .slice A1 len n1] 24)).alloc (.cells #[.int .i64 f2, .slice A2 len2 n2] 24)).cell? ⟨w.heap.size, 1, none⟩ = some (.slice A1 len n1) := HX.out.cell (j := 1) rfl
  by_cases hf : f1 = f2
  case neg =>
    have t : (f1 != f2) = true := by rw [bne_iff_ne]; exact hf
    have e0 : res = false := HRES.out.symm.trans (decide_eq_false fun h => hf h.1)
    rw [e0]
    clear e0 hf
    go_enter Tryz.func19, Tryz.ntmps19
    go_wp2
    go_ret
    exact ⟨rfl, HB.out⟩
  have tf : (f1 != f2) = false := by rw [bne_eq_false_iff_eq]; exact hf
  by_cases hn : len = len2
  case neg =>
    have t : ((len : Int) != len2) = true := by rw [bne_iff_ne]; omega
    have e0 : res = false := HRES.out.symm.trans (decide_eq_false fun h => hn (by rw [← HL.out, ← HL2.out, h.2]))
    rw [e0]
    clear e0 hn hf
    go_enter Tryz.func19, Tryz.ntmps19
    go_wp2
    go_ret
    exact ⟨rfl, HB.out⟩
  subst hn
  have tn : ((len : Int) != len) = false := by rw [bne_eq_false_iff_eq]
  have HF := Lib.hid hf
  clear hf
  go_enter Tryz.func19, Tryz.ntmps19
  go_upto_region 3 with fail
  generalize (w.alloc (.cells #[.int .i64 f1, .slice A1 len n1] 24)).alloc (.cells #[.int .i64 f2, .slice A2 len n2] 24) = w2 at *
  clear x0 x1 tf tn
  have HY2 := HY
  generalize w.heap.size + 1 = Y1 at *
  go_wp2
  go_loopw [5] (fun iv wr => ∃ i : Nat, i ≤ len ∧ iv = .int .i64 (i : Int) ∧ (∃ n, wr = w2.drewN n) ∧ ∀ k : Nat, k < i → l1[k]? = l2[k]?) (fun iv _ => len - (intOf iv).toNat)
  case atStart => exact ⟨0, Nat.zero_le _, rfl, ⟨0, rfl⟩, fun k hk => absurd hk (by omega)⟩
  case round =>
    obtain ⟨i, hi, rfl, ⟨dn, hdn⟩, hk⟩ := hrel
    have HXr := Lib.hid (show Cells wr w.heap.size 24 #[.int .i64 f1, .slice A1 len n1] from hdn ▸ HX.out.drewN dn)
    have HYr := Lib.hid (show Cells wr Y1 24 #[.int .i64 f2, .slice A2 len n2] from hdn ▸ HY.out.drewN dn)
    have HBr := Lib.hid (show Below w.heap.size w wr from hdn ▸ below_drewN HB.out dn)
    have HDN := Lib.hid hdn
    have HK := Lib.hid hk
    clear hdn hk
    have x1 : wr.cell? ⟨w.heap.size, 1, none⟩ = some (.slice A1 len n1) := HXr.out.cell (j := 1) rfl
    have y1 : wr.cell? ⟨Y1, 1, none⟩ = some (.slice A2 len n2) := HYr.out.cell (j := 1) rfl
    by_cases hlt : i < len
    · obtain ⟨x, hx⟩ : ∃ x, l1[i]? = some x := ⟨l1[i]'(by rw [HL.out]; exact hlt), List.getElem?_eq_getElem _⟩
      obtain ⟨y, hy⟩ : ∃ y, l2[i]? = some y := ⟨l2[i]'(by rw [HL2.out]; exact hlt), List.getElem?_eq_getElem _⟩
      obtain ⟨b, off, rfl, hb, hc⟩ := H1.out (by rw [HL.out]; omega)
      obtain ⟨b', off', rfl, hb', hc'⟩ := H2.out (by rw [HL2.out]; omega)
      obtain ⟨c0, c1, c2, c3, c4, c5⟩ := ((hc i x hx).1.keep HBr.out hb)
      obtain ⟨d0, d1, d2, d3, d4, d5⟩ := ((hc' i y hy).1.keep HBr.out hb')
      have hq := fun W => ins_neq x y W
      have HXE := Lib.hid hx
      have HYE := Lib.hid hy
      have i0 : (0 : Int) ≤ i := by omega
      have i1 : (i : Int) < len := by omega
      have hwi : wrap64 ((i : Int) + 1) = (i : Int) + 1 := by unfold wrap64; omega
      have HLT := Lib.hid hlt
      clear hc hc' hx hy hlt hi hl
      by_cases hxy : x = y
      · have HK2 : Hid (∀ k : Nat, k < i + 1 → l1[k]? = l2[k]?) := Lib.hid fun k hk => by
          rcases Nat.lt_or_ge k i with h | h
          · exact HK.out k h
          · obtain rfl : k = i := by omega
            rw [HXE.out, HYE.out, hxy]
        rw [decide_eq_true hxy] at hq
        clear hxy
        generalize x.op = xo at *; generalize x.a = xa at *; generalize x.b = xb at *; generalize x.c = xc at *; generalize x.n = xn at *; generalize x.k = xk at *
        generalize y.op = yo at *; generalize y.a = ya at *; generalize y.b = yb at *; generalize y.c = yc at *; generalize y.n = yn at *; generalize y.k = yk at *
        go_wp2
        go_quiet (fail)
        go_wp2
        refine ⟨⟨i + 1, HLT.out, up_val hwi, ?_, HK2.out⟩, up_end HLT.out hwi⟩
        rw [HDN.out]
        exact ⟨_, by rw [World.drewN_drewN]⟩
      · have e0 : res = false := HRES.out.symm.trans (decide_eq_false fun h => hxy (by
          have := HXE.out
          rw [h.2, HYE.out] at this
          injection this with this
          exact this.symm))
        rw [decide_eq_false hxy] at hq
        have HE0 := Lib.hid e0
        clear hxy e0
        generalize x.op = xo at *; generalize x.a = xa at *; generalize x.b = xb at *; generalize x.c = xc at *; generalize x.n = xn at *; generalize x.k = xk at *
        generalize y.op = yo at *; generalize y.a = ya at *; generalize y.b = yb at *; generalize y.c = yc at *; generalize y.n = yn at *; generalize y.k = yk at *
        go_wp2
        go_quiet (fail)
        go_wp2
        go_ret
        exact ⟨by rw [HE0.out]; rfl, below_drewN HBr.out _⟩
    · obtain rfl : i = len := by omega
      have i1 : ¬ (i : Int) < i := by omega
      have e0 : res = true := HRES.out.symm.trans (decide_eq_true ⟨HF.out, list_same (HL.out.trans HL2.out.symm) (fun k hk => HK.out k (by rw [HL.out] at hk; exact hk))⟩)
      have HE0 := Lib.hid e0
      clear e0
      go_wp2
      go_ret
      exact ⟨by rw [HE0.out]; rfl, HBr.out⟩

/-! ### the document's example -/
def exCode : List Ins := [⟨1, 0, 0, 0, 0, 4609434218613702656⟩, ⟨21, 0, 0, 0, 0, 0⟩, ⟨14, 0, 0, 0, 3, 0⟩]
theorem ex_ok : (progCheck ((9 : Nat) : Int) exCode).1 = 0 := by decide +kernel
theorem ex_at : (progCheck ((9 : Nat) : Int) exCode).2 = 0 := by decide +kernel
theorem ex_k : ∀ x ∈ exCode, x.k < 2 * signB := by decide +kernel
def exText : List UInt8 := [102, 117, 101, 108, 32, 57, 10, 115, 101, 116, 32, 114, 48, 32, 51, 112, 45, 49, 10, 101, 109, 105, 116, 32, 114, 48, 10, 106, 117, 109, 112, 32, 51, 10]
def exBytes : List UInt8 := [9, 3, 1, 0, 63, 248, 0, 0, 0, 0, 0, 0, 21, 0, 14, 3]
theorem ex_text : progText 9 exCode = exText := by decide +kernel
theorem ex_bytes : progB 9 exCode = exBytes := by decide +kernel
def exCells : Array Value := #[.int .i64 1, .int .i64 0, .int .i64 0, .int .i64 0, .int .i64 0, .int .u64 4609434218613702656, .int .i64 21, .int .i64 0, .int .i64 0, .int .i64 0, .int .i64 0, .int .u64 0, .int .i64 14, .int .i64 0, .int .i64 0, .int .i64 0, .int .i64 3, .int .u64 0]
theorem example_any (w : World) : Calls Tryz.prog 61 #[] w fun e w' => ∃ b, e = .returned (.agg #[.int .i64 9, .slice (some ⟨b, 0, none⟩) 3 3]) ∧ CodeIn w' w'.heap.size (some ⟨b, 0, none⟩) exCode ∧ Below w.heap.size w w' := by
  go_enter Tryz.func61, Tryz.ntmps61
  go_wp2
  refine bodyPost_ret (v := .agg #[.int .i64 9, .slice (some ⟨w.heap.size + 1, 0, none⟩) 3 3]) (by simp [results, Tryz.results61, go_sem]) rfl ?_
  refine ⟨w.heap.size + 1, rfl, ?_, ?_⟩
  · intro _
    have hc : ∀ wz : World, Cells wz (w.heap.size + 1) 43 exCells → ∀ (i : Nat) (x : Ins), exCode[i]? = some x → InsAt wz (w.heap.size + 1) (0 + i * 6) x ∧ x.k < 2 * signB := by
      intro wz h i x hx
      refine ⟨?_, ex_k x (List.mem_of_getElem? hx)⟩
      match i with
      | 0 => simp [exCode] at hx; subst hx; exact ⟨h.cell (j := 0) rfl, h.cell (j := 1) rfl, h.cell (j := 2) rfl, h.cell (j := 3) rfl, h.cell (j := 4) rfl, h.cell (j := 5) rfl⟩
      | 1 => simp [exCode] at hx; subst hx; exact ⟨h.cell (j := 6) rfl, h.cell (j := 7) rfl, h.cell (j := 8) rfl, h.cell (j := 9) rfl, h.cell (j := 10) rfl, h.cell (j := 11) rfl⟩
      | 2 => simp [exCode] at hx; subst hx; exact ⟨h.cell (j := 12) rfl, h.cell (j := 13) rfl, h.cell (j := 14) rfl, h.cell (j := 15) rfl, h.cell (j := 16) rfl, h.cell (j := 17) rfl⟩
      | i + 3 => simp [exCode] at hx
    first
      | exact ⟨w.heap.size + 1, 0, rfl, by simp, hc _ (Cells.newAt _ _ _ _ (by simp))⟩
  · first
      | exact ((Below.refl _ _).alloc (Nat.le_refl _) _).alloc (by simp) _
theorem same_ex {w : World} {A1 A2 : Option Addr} {n1 n2 : Nat} (h1 : CodeIn w w.heap.size A1 exCode) (h2 : CodeIn w w.heap.size A2 exCode) :
    Calls Tryz.prog 19 #[.agg #[.int .i64 9, .slice A1 3 n1], .agg #[.int .i64 9, .slice A2 3 n2]] w fun e w' => e = .returned (.bool true) ∧ Below w.heap.size w w' := by
  have k := same_any 9 9 A1 A2 exCode exCode n1 n2 w h1 h2 (by decide)
  rw [decide_eq_true ⟨rfl, rfl⟩] at k
  exact k

set_option maxHeartbeats 40000000 in
set_option maxRecDepth 100000 in
theorem known_any (w : World) (hA : AllAt w) : Calls Tryz.prog 27 #[] w fun e w' => e = .returned (.bool true) ∧ Below w.heap.size w w' := by
  have HAA : Hid (∀ W, Below w.heap.size w W → AllAt W) := Lib.hid fun W hW => hA.keep hW
  have HNEXT : Hid (∀ x y : World, Below w.heap.size w x → Below x.heap.size x y → Below w.heap.size w y) := Lib.hid fun x y h k => grow_to h k
  have HKC : Hid (∀ (W : World) (b : Nat), CodeIn W W.heap.size (some ⟨b, 0, none⟩) exCode → Calls Tryz.prog 12 #[.agg #[.int .i64 9, .slice (some ⟨b, 0, none⟩) 3 3]] W fun e w' => e = .returned (.tuple #[.int .i64 0, .int .i64 0]) ∧ Below W.heap.size W w') := Lib.hid fun W b hC => by
    have k := check_any ((9 : Nat) : Int) (some ⟨b, 0, none⟩) exCode 3 W hC
    rw [ex_ok, ex_at] at k
    exact k
  have HKP : Hid (∀ (W : World) (b : Nat), Below w.heap.size w W → CodeIn W W.heap.size (some ⟨b, 0, none⟩) exCode → Calls Tryz.prog 15 #[.agg #[.int .i64 9, .slice (some ⟨b, 0, none⟩) 3 3]] W fun e w' => e = .returned (.tuple #[.string { data := #[102, 117, 101, 108, 32, 57, 10, 115, 101, 116, 32, 114, 48, 32, 51, 112, 45, 49, 10, 101, 109, 105, 116, 32, 114, 48, 10, 106, 117, 109, 112, 32, 51, 10] }, .int .i64 0]) ∧ Below W.heap.size W w') := Lib.hid fun W b hW hC => by
    have k := print_any ((9 : Nat) : Int) (some ⟨b, 0, none⟩) exCode 3 W hC ex_k (HAA.out W hW).tabs
    rw [ex_ok, if_pos rfl, Int.toNat_natCast, ex_text] at k
    exact k
  have HKK : Hid (∀ (W : World) (b : Nat), CodeIn W W.heap.size (some ⟨b, 0, none⟩) exCode → Calls Tryz.prog 21 #[.agg #[.int .i64 9, .slice (some ⟨b, 0, none⟩) 3 3]] W fun e w' => e = .returned (.tuple #[.string { data := #[9, 3, 1, 0, 63, 248, 0, 0, 0, 0, 0, 0, 21, 0, 14, 3] }, .int .i64 0]) ∧ Below W.heap.size W w') := Lib.hid fun W b hC => by
    have k := pack_any ((9 : Nat) : Int) (some ⟨b, 0, none⟩) exCode 3 W hC ex_k
    rw [ex_ok, if_pos rfl, Int.toNat_natCast, ex_bytes] at k
    exact k
  have HKR : Hid (∀ (W : World), Below w.heap.size w W → Calls Tryz.prog 17 #[.string { data := #[102, 117, 101, 108, 32, 57, 10, 115, 101, 116, 32, 114, 48, 32, 51, 112, 45, 49, 10, 101, 109, 105, 116, 32, 114, 48, 10, 106, 117, 109, 112, 32, 51, 10] }] W fun e w' => (∃ A cap, e = .returned (.tuple #[.agg #[.int .i64 9, .slice A 3 cap], .int .i64 0, .int .i64 0]) ∧ CodeIn w' w'.heap.size A exCode) ∧ Below W.heap.size W w') := Lib.hid fun W hW => by
    have k := pparse_any (progText 9 exCode) (by rw [ex_text]; decide) W (HAA.out W hW)
    unfold ParseOut at k
    rw [parse_print ex_ok ex_k, ex_text] at k
    refine Calls.mono (show Calls Tryz.prog 17 #[.string { data := #[102, 117, 101, 108, 32, 57, 10, 115, 101, 116, 32, 114, 48, 32, 51, 112, 45, 49, 10, 101, 109, 105, 116, 32, 114, 48, 10, 106, 117, 109, 112, 32, 51, 10] }] W _ from k) ?_
    rintro e w' ⟨⟨A, cap, h1, h2, h3⟩, hb⟩
    exact ⟨⟨A, cap, h1, h2.code h3⟩, hb⟩
  have HKU : Hid (∀ (W : World), Calls Tryz.prog 23 #[.string { data := #[9, 3, 1, 0, 63, 248, 0, 0, 0, 0, 0, 0, 21, 0, 14, 3] }] W fun e w' => (∃ A cap, e = .returned (.tuple #[.agg #[.int .i64 9, .slice A 3 cap], .int .i64 0]) ∧ CodeIn w' w'.heap.size A exCode) ∧ Below W.heap.size W w') := Lib.hid fun W => by
    have k := unpack_any (progB 9 exCode) (by rw [ex_bytes]; decide) W
    unfold UnpackOut at k
    rw [unpack_pack ex_ok ex_k, ex_bytes] at k
    refine Calls.mono (show Calls Tryz.prog 23 #[.string { data := #[9, 3, 1, 0, 63, 248, 0, 0, 0, 0, 0, 0, 21, 0, 14, 3] }] W _ from k) ?_
    rintro e w' ⟨⟨A, cap, h1, h2, h3⟩, hb⟩
    exact ⟨⟨A, cap, h1, h2.code h3⟩, hb⟩
  clear hA
  go_enter Tryz.func27, Tryz.ntmps27
  go_upto_region 2 with (first | (go_at_call 61; refine (example_any _).mono ?_; rintro _ w1 ⟨b1, rfl, hc1, hb1⟩; have HC1 := Lib.hid hc1; have HB1 := Lib.hid hb1; clear hc1 hb1) | (go_at_call 12; refine (HKC.out _ _ HC1.out).mono ?_; rintro _ w2 ⟨rfl, hb2⟩; have HB2 := Lib.hid (HNEXT.out _ _ HB1.out hb2); clear hb2))
  clear HC1 HB1 HKC
  clear w1
  go_upto_region 3 with (first | (go_at_call 61; refine (example_any _).mono ?_; rintro _ w3 ⟨b3, rfl, hc3, hb3⟩; have HC3 := Lib.hid hc3; have HB3 := Lib.hid (HNEXT.out _ _ HB2.out hb3); clear hc3 hb3) | (go_at_call 15; refine (HKP.out _ _ HB3.out HC3.out).mono ?_; rintro _ w4 ⟨rfl, hb4⟩; have HB4 := Lib.hid (HNEXT.out _ _ HB3.out hb4); clear hb4))
  clear HC3 HB3 HKP HB2
  clear w2 w3
  go_upto_region 4 with (go_at_call 17; refine (HKR.out _ HB4.out).mono ?_; rintro _ w5 ⟨⟨A5, c5, rfl, hc5⟩, hb5⟩; have HC5 := Lib.hid hc5; have HB5 := Lib.hid (HNEXT.out _ _ HB4.out hb5); clear hc5 hb5)
  have HX6 := Lib.hid (Cells.new w5 24 #[.int .i64 9, .slice A5 3 c5])
  have HC6 := Lib.hid ((HC5.out.keep ((Below.refl w5.heap.size w5).alloc (Nat.le_refl _) (.cells #[.int .i64 9, .slice A5 3 c5] 24))).more (show w5.heap.size ≤ (w5.alloc (.cells #[.int .i64 9, .slice A5 3 c5] 24)).heap.size from by simp))
  have HB6 := Lib.hid (HB5.out.alloc HB5.out.size (.cells #[.int .i64 9, .slice A5 3 c5] 24))
  clear HC5 HB5 HB4 HKR
  generalize w5.alloc (.cells #[.int .i64 9, .slice A5 3 c5] 24) = w6 at *
  generalize w5.heap.size = B5 at *
  clear w4 w5
  go_upto_region 5 with (first | (go_at_call 61; refine (example_any _).mono ?_; rintro _ w7 ⟨b7, rfl, hc7, hb7⟩; have HC7 := Lib.hid hc7; have HB7 := Lib.hid (HNEXT.out _ _ HB6.out hb7); have HX7 := Lib.hid (HX6.out.keep hb7); have HD7 := Lib.hid ((HC6.out.keep hb7).more hb7.size); clear hc7 hb7) | (go_at_call 21; refine (HKK.out _ _ HC7.out).mono ?_; rintro _ w8 ⟨rfl, hb8⟩; have HB8 := Lib.hid (HNEXT.out _ _ HB7.out hb8); have HX8 := Lib.hid (HX7.out.keep hb8); have HD8 := Lib.hid ((HD7.out.keep hb8).more hb8.size); clear hb8))
  clear HX6 HC6 HB6 HC7 HB7 HX7 HD7 HKK
  clear w6 w7
  go_upto_region 6 with (go_at_call 23; refine (HKU.out _).mono ?_; rintro _ w9 ⟨⟨A6, c6, rfl, hc9⟩, hb9⟩; have HC9 := Lib.hid hc9; have HB9 := Lib.hid (HNEXT.out _ _ HB8.out hb9); have HX9 := Lib.hid (HX8.out.keep hb9); have HD9 := Lib.hid ((HD8.out.keep hb9).more hb9.size); clear hc9 hb9)
  have HY6 := Lib.hid (Cells.new w9 24 #[.int .i64 9, .slice A6 3 c6])
  have HALB := Lib.hid ((Below.refl w9.heap.size w9).alloc (Nat.le_refl _) (.cells #[.int .i64 9, .slice A6 3 c6] 24))
  have HE6 := Lib.hid ((HC9.out.keep HALB.out).more HALB.out.size)
  have HD6 := Lib.hid ((HD9.out.keep HALB.out).more HALB.out.size)
  have HX6 := Lib.hid (HX9.out.alloc (.cells #[.int .i64 9, .slice A6 3 c6] 24))
  have HBw := Lib.hid (HB9.out.alloc HB9.out.size (.cells #[.int .i64 9, .slice A6 3 c6] 24))
  clear HC9 HD9 HX9 HB9 HX8 HD8 HB8 HALB HKU
  generalize w9.alloc (.cells #[.int .i64 9, .slice A6 3 c6] 24) = wk at *
  generalize w9.heap.size = B6 at *
  clear w8 w9
  have hS0 : ((wk.cell? ⟨B5, 0, none⟩ = some (.int .i64 9) ∧ wk.cell? ⟨B5, 1, none⟩ = some (.slice A5 3 c5)) ∧ wk.cell? ⟨B6, 0, none⟩ = some (.int .i64 9) ∧ wk.cell? ⟨B6, 1, none⟩ = some (.slice A6 3 c6)) := ⟨⟨HX6.out.cell (j := 0) rfl, HX6.out.cell (j := 1) rfl⟩, HY6.out.cell (j := 0) rfl, HY6.out.cell (j := 1) rfl⟩
  -- from here on: what lies above wk's blocks
  have HNEXT : Hid (∀ x y : World, Below wk.heap.size wk x → Below x.heap.size x y → Below wk.heap.size wk y) := Lib.hid fun x y h k => grow_to h k
  have HKEEP : Hid (∀ wz, Below wk.heap.size wk wz → ((wz.cell? ⟨B5, 0, none⟩ = some (.int .i64 9) ∧ wz.cell? ⟨B5, 1, none⟩ = some (.slice A5 3 c5)) ∧ wz.cell? ⟨B6, 0, none⟩ = some (.int .i64 9) ∧ wz.cell? ⟨B6, 1, none⟩ = some (.slice A6 3 c6))) := Lib.hid fun wz hz => ⟨⟨(HX6.out.keep hz).cell (j := 0) rfl, (HX6.out.keep hz).cell (j := 1) rfl⟩, (HY6.out.keep hz).cell (j := 0) rfl, (HY6.out.keep hz).cell (j := 1) rfl⟩
  have HCODE5 : Hid (∀ wz, Below wk.heap.size wk wz → CodeIn wz wz.heap.size A5 exCode) := Lib.hid fun wz hz => (HD6.out.keep hz).more hz.size
  have HCODE6 : Hid (∀ wz, Below wk.heap.size wk wz → CodeIn wz wz.heap.size A6 exCode) := Lib.hid fun wz hz => (HE6.out.keep hz).more hz.size
  have HBASE1 := Lib.hid (Below.refl wk.heap.size wk)
  have hz16 : ((ByteArray.size { data := #[9, 3, 1, 0, 63, 248, 0, 0, 0, 0, 0, 0, 21, 0, 14, 3] } : Nat) : Int) = 16 := rfl
  clear HX6 HY6 HD6 HE6 HAA
  refine wp_region_held_drew (S := fun w' => (w'.cell? ⟨B5, 0, none⟩ = some (.int .i64 9) ∧ w'.cell? ⟨B5, 1, none⟩ = some (.slice A5 3 c5)) ∧ w'.cell? ⟨B6, 0, none⟩ = some (.int .i64 9) ∧ w'.cell? ⟨B6, 1, none⟩ = some (.slice A6 3 c6)) (by kernel_rfl) hS0 (fun hS => ?_)
  refine wpAnyH_take (i := 0) (v := ?_) rfl (by kernel_rfl) (by kernel_rfl) (by kernel_rfl) (fun _ _ _ h => h) (Or.inl ⟨by rfl, ?_⟩) hS ?_
  rotate_left
  · (intro wx hSx; (try dsimp only at hSx); go_simp; (try with_reducible rfl))
  simp only [List.getElem_toArray, List.getElem_cons_zero, Act.put, List.setIfInBounds_toArray, List.set_cons_zero, List.set_cons_succ]
  refine wpAnyH_take (i := 1) (v := ?_) rfl (by kernel_rfl) (by kernel_rfl) (by kernel_rfl) (fun _ _ _ h => h) (Or.inl ⟨by rfl, ?_⟩) hS ?_
  rotate_left
  · (intro wx hSx; (try dsimp only at hSx); go_simp; (try with_reducible rfl))
  simp only [List.getElem_toArray, List.getElem_cons_succ, List.getElem_cons_zero, Act.put, List.setIfInBounds_toArray, List.set_cons_zero, List.set_cons_succ]
  refine wpAnyH_take (i := 2) (v := ?_) rfl (by kernel_rfl) (by kernel_rfl) (by kernel_rfl) (fun _ _ _ h => h) (Or.inl ⟨by rfl, ?_⟩) hS ?_
  rotate_left
  · (intro wx hSx; (try dsimp only at hSx); go_simp; (try with_reducible rfl))
  simp only [List.getElem_toArray, List.getElem_cons_succ, List.getElem_cons_zero, Act.put, List.setIfInBounds_toArray, List.set_cons_zero, List.set_cons_succ]
  refine wpAnyH_take (i := 3) (v := ?_) rfl (by kernel_rfl) (by kernel_rfl) (by kernel_rfl) (fun _ _ _ h => h) (Or.inl ⟨by rfl, ?_⟩) hS ?_
  rotate_left
  · (intro wx hSx; (try dsimp only at hSx); go_simp; (try with_reducible rfl))
  simp only [List.getElem_toArray, List.getElem_cons_succ, List.getElem_cons_zero, Act.put, List.setIfInBounds_toArray, List.set_cons_zero, List.set_cons_succ]
  refine wpAnyH_take (i := 4) (v := ?_) rfl (by kernel_rfl) (by kernel_rfl) (by kernel_rfl) (fun _ _ _ h => h) (Or.inl ⟨by rfl, ?_⟩) hS ?_
  rotate_left
  · (intro wx hSx; (try dsimp only at hSx); go_simp; (try with_reducible rfl))
  simp only [List.getElem_toArray, List.getElem_cons_succ, List.getElem_cons_zero, Act.put, List.setIfInBounds_toArray, List.set_cons_zero, List.set_cons_succ]
  refine wpAnyH_take (i := 5) (v := ?_) rfl (by kernel_rfl) (by kernel_rfl) (by kernel_rfl) (fun _ _ _ h => h) (Or.inl ⟨by rfl, ?_⟩) hS ?_
  rotate_left
  · (intro wx hSx; (try dsimp only at hSx); go_simp; (try with_reducible rfl))
  simp only [List.getElem_toArray, List.getElem_cons_succ, List.getElem_cons_zero, Act.put, List.setIfInBounds_toArray, List.set_cons_zero, List.set_cons_succ]
  refine wpAnyH_take (i := 6) (v := ?_) rfl (by kernel_rfl) (by kernel_rfl) (by kernel_rfl) (fun _ _ _ h => h) (Or.inl ⟨by rfl, ?_⟩) hS ?_
  rotate_left
  · (intro wx hSx; (try dsimp only at hSx); go_simp; (try with_reducible rfl))
  simp only [List.getElem_toArray, List.getElem_cons_succ, List.getElem_cons_zero, Act.put, List.setIfInBounds_toArray, List.set_cons_zero, List.set_cons_succ]
  refine wpAnyH_take (i := 7) (v := ?_) rfl (by kernel_rfl) (by kernel_rfl) (by kernel_rfl) (fun _ _ _ h => h) (Or.inl ⟨by rfl, ?_⟩) hS ?_
  rotate_left
  · (intro wx hSx; (try dsimp only at hSx); go_simp; (try with_reducible rfl))
  simp only [List.getElem_toArray, List.getElem_cons_succ, List.getElem_cons_zero, Act.put, List.setIfInBounds_toArray, List.set_cons_zero, List.set_cons_succ]
  refine wpAnyH_take (i := 8) (v := ?_) rfl (by kernel_rfl) (by kernel_rfl) (by kernel_rfl) (fun _ _ _ h => h) (Or.inl ⟨by rfl, ?_⟩) hS ?_
  rotate_left
  · (intro wx hSx; (try dsimp only at hSx); go_simp; (try with_reducible rfl))
  simp only [List.getElem_toArray, List.getElem_cons_succ, List.getElem_cons_zero, Act.put, List.setIfInBounds_toArray, List.set_cons_zero, List.set_cons_succ]
  refine wpAnyH_take (i := 9) (v := ?_) rfl (by kernel_rfl) (by kernel_rfl) (by kernel_rfl) (fun _ _ _ h => h) (Or.inl ⟨by rfl, ?_⟩) hS ?_
  rotate_left
  · (intro wx hSx; (try dsimp only at hSx); go_simp; (try with_reducible rfl))
  simp only [List.getElem_toArray, List.getElem_cons_succ, List.getElem_cons_zero, Act.put, List.setIfInBounds_toArray, List.set_cons_zero, List.set_cons_succ]
  refine wpAnyH_take (i := 10) (v := ?_) rfl (by kernel_rfl) (by kernel_rfl) (by kernel_rfl) (fun _ _ _ h => h) (Or.inl ⟨by rfl, ?_⟩) hS ?_
  rotate_left
  · (intro wx hSx; (try dsimp only at hSx); go_simp; (try with_reducible rfl))
  simp only [List.getElem_toArray, List.getElem_cons_succ, List.getElem_cons_zero, Act.put, List.setIfInBounds_toArray, List.set_cons_zero, List.set_cons_succ]
  refine wpAnyH_take (i := 11) (v := ?_) rfl (by kernel_rfl) (by kernel_rfl) (by kernel_rfl) (fun _ _ _ h => h) (Or.inl ⟨by rfl, ?_⟩) hS ?_
  rotate_left
  · (intro wx hSx; (try dsimp only at hSx); go_simp; (try with_reducible rfl))
  simp only [List.getElem_toArray, List.getElem_cons_succ, List.getElem_cons_zero, Act.put, List.setIfInBounds_toArray, List.set_cons_zero, List.set_cons_succ]
  refine wpAnyH_take (i := 12) (v := ?_) rfl (by kernel_rfl) (by kernel_rfl) (by kernel_rfl) (fun _ _ _ h => h) (Or.inl ⟨by rfl, ?_⟩) hS ?_
  rotate_left
  · (intro wx hSx; (try dsimp only at hSx); go_simp; (try with_reducible rfl))
  simp only [List.getElem_toArray, List.getElem_cons_succ, List.getElem_cons_zero, Act.put, List.setIfInBounds_toArray, List.set_cons_zero, List.set_cons_succ]
  refine wpAnyH_take (i := 13) (v := ?_) rfl (by kernel_rfl) (by kernel_rfl) (by kernel_rfl) (fun _ _ _ h => h) (Or.inl ⟨by rfl, ?_⟩) hS ?_
  rotate_left
  · (intro wx hSx; (try dsimp only at hSx); go_simp; (try with_reducible rfl))
  simp only [List.getElem_toArray, List.getElem_cons_succ, List.getElem_cons_zero, Act.put, List.setIfInBounds_toArray, List.set_cons_zero, List.set_cons_succ]
  refine wpAnyH_take (i := 14) (v := ?_) rfl (by kernel_rfl) (by kernel_rfl) (by kernel_rfl) (fun _ _ _ h => h) (Or.inl ⟨by rfl, ?_⟩) hS ?_
  rotate_left
  · (intro wx hSx; (try dsimp only at hSx); go_simp; (try with_reducible rfl))
  simp only [List.getElem_toArray, List.getElem_cons_succ, List.getElem_cons_zero, Act.put, List.setIfInBounds_toArray, List.set_cons_zero, List.set_cons_succ]
  refine wpAnyH_take (i := 15) (v := ?_) rfl (by kernel_rfl) (by kernel_rfl) (by kernel_rfl) (fun _ _ _ h => h) (Or.inl ⟨by rfl, ?_⟩) hS ?_
  rotate_left
  · (intro wx hSx; (try dsimp only at hSx); go_simp; (try with_reducible rfl))
  simp only [List.getElem_toArray, List.getElem_cons_succ, List.getElem_cons_zero, Act.put, List.setIfInBounds_toArray, List.set_cons_zero, List.set_cons_succ]
  refine wpAnyH_take (i := 16) (v := ?_) rfl (by kernel_rfl) (by kernel_rfl) (by kernel_rfl) (fun _ _ _ h => h) (Or.inl ⟨by rfl, ?_⟩) hS ?_
  rotate_left
  · (intro wx hSx; (try dsimp only at hSx); go_simp; (try with_reducible rfl))
  simp only [List.getElem_toArray, List.getElem_cons_succ, List.getElem_cons_zero, Act.put, List.setIfInBounds_toArray, List.set_cons_zero, List.set_cons_succ]
  refine wpAnyH_take (i := 17) (v := ?_) rfl (by kernel_rfl) (by kernel_rfl) (by kernel_rfl) (fun _ _ _ h => h) (Or.inl ⟨by rfl, ?_⟩) hS ?_
  rotate_left
  · (intro wx hSx; (try dsimp only at hSx); go_simp; (try with_reducible rfl))
  simp only [List.getElem_toArray, List.getElem_cons_succ, List.getElem_cons_zero, Act.put, List.setIfInBounds_toArray, List.set_cons_zero, List.set_cons_succ]
  refine wpAnyH_take (i := 18) (v := ?_) rfl (by kernel_rfl) (by kernel_rfl) (by kernel_rfl) (fun _ _ _ h => h) (Or.inl ⟨by rfl, ?_⟩) hS ?_
  rotate_left
  · (intro wx hSx; (try dsimp only at hSx); go_simp; (try with_reducible rfl))
  simp only [List.getElem_toArray, List.getElem_cons_succ, List.getElem_cons_zero, Act.put, List.setIfInBounds_toArray, List.set_cons_zero, List.set_cons_succ]
  refine wpAnyH_take (i := 19) (v := ?_) rfl (by kernel_rfl) (by kernel_rfl) (by kernel_rfl) (fun _ _ _ h => h) (Or.inl ⟨by rfl, ?_⟩) hS ?_
  rotate_left
  · (intro wx hSx; (try dsimp only at hSx); go_simp; (try with_reducible rfl))
  simp only [List.getElem_toArray, List.getElem_cons_succ, List.getElem_cons_zero, Act.put, List.setIfInBounds_toArray, List.set_cons_zero, List.set_cons_succ]
  refine wpAnyH_take (i := 20) (v := ?_) rfl (by kernel_rfl) (by kernel_rfl) (by kernel_rfl) (fun _ _ _ h => h) (Or.inl ⟨by rfl, ?_⟩) hS ?_
  rotate_left
  · (intro wx hSx; (try dsimp only at hSx); go_simp; (try with_reducible rfl))
  simp only [List.getElem_toArray, List.getElem_cons_succ, List.getElem_cons_zero, Act.put, List.setIfInBounds_toArray, List.set_cons_zero, List.set_cons_succ]
  refine wpAnyH_take (i := 21) (v := ?_) rfl (by kernel_rfl) (by kernel_rfl) (by kernel_rfl) (fun _ _ _ h => h) (Or.inl ⟨by rfl, ?_⟩) hS ?_
  rotate_left
  · (intro wx hSx; (try dsimp only at hSx); go_simp; (try with_reducible rfl))
  simp only [List.getElem_toArray, List.getElem_cons_succ, List.getElem_cons_zero, Act.put, List.setIfInBounds_toArray, List.set_cons_zero, List.set_cons_succ]
  refine wpAnyH_take (i := 22) (v := ?_) rfl (by kernel_rfl) (by kernel_rfl) (by kernel_rfl) (fun _ _ _ h => h) (Or.inl ⟨by rfl, ?_⟩) hS ?_
  rotate_left
  · (intro wx hSx; (try dsimp only at hSx); go_simp; (try with_reducible rfl))
  simp only [List.getElem_toArray, List.getElem_cons_succ, List.getElem_cons_zero, Act.put, List.setIfInBounds_toArray, List.set_cons_zero, List.set_cons_succ]
  refine wpAnyH_take (i := 23) (v := ?_) rfl (by kernel_rfl) (by kernel_rfl) (by kernel_rfl) (fun _ _ _ h => h) (Or.inl ⟨by rfl, ?_⟩) hS ?_
  rotate_left
  · (intro wx hSx; (try dsimp only at hSx); go_simp; (try with_reducible rfl))
  simp only [List.getElem_toArray, List.getElem_cons_succ, List.getElem_cons_zero, Act.put, List.setIfInBounds_toArray, List.set_cons_zero, List.set_cons_succ]
  refine wpAnyH_ready (rs := [24]) (by kernel_rfl) (by simp) ?_
  refine AllReadyH.cons rfl (fun K hK => ?_) AllReadyH.nil
  go_simp
  go_at_call 61
  refine (example_any _).mono ?_
  rintro _ x1 ⟨be1, rfl, hce1, hbe1⟩
  have HCE1 := Lib.hid hce1
  have HBE1 := Lib.hid (HNEXT.out _ _ (by first | exact HBASE1.out | exact HBASE1.out.drew) hbe1)
  have hS1 := HKEEP.out _ HBE1.out
  clear hce1 hbe1
  refine hK.out _ _ (by first | with_reducible exact hS0 | with_reducible exact hS | with_reducible exact hS1 | with_reducible exact hT1 | with_reducible exact hS2 | with_reducible exact hT2) (fun hS => ?_)
  clear hK K
  try simp only [Act.put, List.setIfInBounds_toArray, List.set_cons_zero, List.set_cons_succ]
  refine wpAnyH_ready (rs := [25]) (by kernel_rfl) (by simp) ?_
  refine AllReadyH.cons rfl (fun K hK => ?_) AllReadyH.nil
  go_simp
  go_at_call 19
  refine (same_ex (HCODE5.out _ HBE1.out) HCE1.out).mono ?_
  rintro _ y1 ⟨rfl, hby1⟩
  have HBASE2 := Lib.hid (HNEXT.out _ _ HBE1.out hby1)
  have hT1 := HKEEP.out _ HBASE2.out
  clear hby1
  refine hK.out _ _ (by first | with_reducible exact hS0 | with_reducible exact hS | with_reducible exact hS1 | with_reducible exact hT1 | with_reducible exact hS2 | with_reducible exact hT2) (fun hS => ?_)
  clear hK K
  try simp only [Act.put, List.setIfInBounds_toArray, List.set_cons_zero, List.set_cons_succ]
  refine wpAnyH_take (i := 26) (v := ?_) rfl (by kernel_rfl) (by kernel_rfl) (by kernel_rfl) (fun _ _ _ h => h) (Or.inl ⟨by rfl, ?_⟩) hS ?_
  rotate_left
  · (intro wx hSx; (try dsimp only at hSx); go_simp; (try with_reducible rfl))
  simp only [List.getElem_toArray, List.getElem_cons_succ, List.getElem_cons_zero, Act.put, List.setIfInBounds_toArray, List.set_cons_zero, List.set_cons_succ]
  refine wpAnyH_take (i := 27) (v := ?_) rfl (by kernel_rfl) (by kernel_rfl) (by kernel_rfl) (fun _ _ _ h => h) (Or.inl ⟨by rfl, ?_⟩) hS ?_
  rotate_left
  · (intro wx hSx; (try dsimp only at hSx); go_simp; (try with_reducible rfl))
  simp only [List.getElem_toArray, List.getElem_cons_succ, List.getElem_cons_zero, Act.put, List.setIfInBounds_toArray, List.set_cons_zero, List.set_cons_succ]
  refine wpAnyH_take (i := 28) (v := ?_) rfl (by kernel_rfl) (by kernel_rfl) (by kernel_rfl) (fun _ _ _ h => h) (Or.inl ⟨by rfl, ?_⟩) hS ?_
  rotate_left
  · (intro wx hSx; (try dsimp only at hSx); go_simp; (try with_reducible rfl))
  simp only [List.getElem_toArray, List.getElem_cons_succ, List.getElem_cons_zero, Act.put, List.setIfInBounds_toArray, List.set_cons_zero, List.set_cons_succ]
  refine wpAnyH_take (i := 29) (v := ?_) rfl (by kernel_rfl) (by kernel_rfl) (by kernel_rfl) (fun _ _ _ h => h) (Or.inl ⟨by rfl, ?_⟩) hS ?_
  rotate_left
  · (intro wx hSx; (try dsimp only at hSx); go_simp; (try with_reducible rfl))
  simp only [List.getElem_toArray, List.getElem_cons_succ, List.getElem_cons_zero, Act.put, List.setIfInBounds_toArray, List.set_cons_zero, List.set_cons_succ]
  refine wpAnyH_take (i := 30) (v := ?_) rfl (by kernel_rfl) (by kernel_rfl) (by kernel_rfl) (fun _ _ _ h => h) (Or.inl ⟨by rfl, ?_⟩) hS ?_
  rotate_left
  · (intro wx hSx; (try dsimp only at hSx); go_simp; (try with_reducible rfl))
  simp only [List.getElem_toArray, List.getElem_cons_succ, List.getElem_cons_zero, Act.put, List.setIfInBounds_toArray, List.set_cons_zero, List.set_cons_succ]
  refine wpAnyH_take (i := 31) (v := ?_) rfl (by kernel_rfl) (by kernel_rfl) (by kernel_rfl) (fun _ _ _ h => h) (Or.inl ⟨by rfl, ?_⟩) hS ?_
  rotate_left
  · (intro wx hSx; (try dsimp only at hSx); go_simp; (try with_reducible rfl))
  simp only [List.getElem_toArray, List.getElem_cons_succ, List.getElem_cons_zero, Act.put, List.setIfInBounds_toArray, List.set_cons_zero, List.set_cons_succ]
  refine wpAnyH_take (i := 32) (v := ?_) rfl (by kernel_rfl) (by kernel_rfl) (by kernel_rfl) (fun _ _ _ h => h) (Or.inl ⟨by rfl, ?_⟩) hS ?_
  rotate_left
  · (intro wx hSx; (try dsimp only at hSx); go_simp; (try with_reducible rfl))
  simp only [List.getElem_toArray, List.getElem_cons_succ, List.getElem_cons_zero, Act.put, List.setIfInBounds_toArray, List.set_cons_zero, List.set_cons_succ]
  refine wpAnyH_take (i := 33) (v := ?_) rfl (by kernel_rfl) (by kernel_rfl) (by kernel_rfl) (fun _ _ _ h => h) (Or.inl ⟨by rfl, ?_⟩) hS ?_
  rotate_left
  · (intro wx hSx; (try dsimp only at hSx); go_simp; (try with_reducible rfl))
  simp only [List.getElem_toArray, List.getElem_cons_succ, List.getElem_cons_zero, Act.put, List.setIfInBounds_toArray, List.set_cons_zero, List.set_cons_succ]
  refine wpAnyH_take (i := 34) (v := ?_) rfl (by kernel_rfl) (by kernel_rfl) (by kernel_rfl) (fun _ _ _ h => h) (Or.inl ⟨by rfl, ?_⟩) hS ?_
  rotate_left
  · (intro wx hSx; (try dsimp only at hSx); go_simp; (try with_reducible rfl))
  simp only [List.getElem_toArray, List.getElem_cons_succ, List.getElem_cons_zero, Act.put, List.setIfInBounds_toArray, List.set_cons_zero, List.set_cons_succ]
  refine wpAnyH_take (i := 35) (v := ?_) rfl (by kernel_rfl) (by kernel_rfl) (by kernel_rfl) (fun _ _ _ h => h) (Or.inl ⟨by rfl, ?_⟩) hS ?_
  rotate_left
  · (intro wx hSx; (try dsimp only at hSx); go_simp; (try with_reducible rfl))
  simp only [List.getElem_toArray, List.getElem_cons_succ, List.getElem_cons_zero, Act.put, List.setIfInBounds_toArray, List.set_cons_zero, List.set_cons_succ]
  refine wpAnyH_take (i := 36) (v := ?_) rfl (by kernel_rfl) (by kernel_rfl) (by kernel_rfl) (fun _ _ _ h => h) (Or.inl ⟨by rfl, ?_⟩) hS ?_
  rotate_left
  · (intro wx hSx; (try dsimp only at hSx); go_simp; (try with_reducible rfl))
  simp only [List.getElem_toArray, List.getElem_cons_succ, List.getElem_cons_zero, Act.put, List.setIfInBounds_toArray, List.set_cons_zero, List.set_cons_succ]
  refine wpAnyH_take (i := 37) (v := ?_) rfl (by kernel_rfl) (by kernel_rfl) (by kernel_rfl) (fun _ _ _ h => h) (Or.inl ⟨by rfl, ?_⟩) hS ?_
  rotate_left
  · (intro wx hSx; (try dsimp only at hSx); go_simp; (try with_reducible rfl))
  simp only [List.getElem_toArray, List.getElem_cons_succ, List.getElem_cons_zero, Act.put, List.setIfInBounds_toArray, List.set_cons_zero, List.set_cons_succ]
  refine wpAnyH_take (i := 38) (v := ?_) rfl (by kernel_rfl) (by kernel_rfl) (by kernel_rfl) (fun _ _ _ h => h) (Or.inl ⟨by rfl, ?_⟩) hS ?_
  rotate_left
  · (intro wx hSx; (try dsimp only at hSx); go_simp; (try with_reducible rfl))
  simp only [List.getElem_toArray, List.getElem_cons_succ, List.getElem_cons_zero, Act.put, List.setIfInBounds_toArray, List.set_cons_zero, List.set_cons_succ]
  refine wpAnyH_take (i := 39) (v := ?_) rfl (by kernel_rfl) (by kernel_rfl) (by kernel_rfl) (fun _ _ _ h => h) (Or.inl ⟨by rfl, ?_⟩) hS ?_
  rotate_left
  · (intro wx hSx; (try dsimp only at hSx); go_simp; (try with_reducible rfl))
  simp only [List.getElem_toArray, List.getElem_cons_succ, List.getElem_cons_zero, Act.put, List.setIfInBounds_toArray, List.set_cons_zero, List.set_cons_succ]
  refine wpAnyH_take (i := 40) (v := ?_) rfl (by kernel_rfl) (by kernel_rfl) (by kernel_rfl) (fun _ _ _ h => h) (Or.inl ⟨by rfl, ?_⟩) hS ?_
  rotate_left
  · (intro wx hSx; (try dsimp only at hSx); go_simp; (try with_reducible rfl))
  simp only [List.getElem_toArray, List.getElem_cons_succ, List.getElem_cons_zero, Act.put, List.setIfInBounds_toArray, List.set_cons_zero, List.set_cons_succ]
  refine wpAnyH_take (i := 41) (v := ?_) rfl (by kernel_rfl) (by kernel_rfl) (by kernel_rfl) (fun _ _ _ h => h) (Or.inl ⟨by rfl, ?_⟩) hS ?_
  rotate_left
  · (intro wx hSx; (try dsimp only at hSx); go_simp; (try with_reducible rfl))
  simp only [List.getElem_toArray, List.getElem_cons_succ, List.getElem_cons_zero, Act.put, List.setIfInBounds_toArray, List.set_cons_zero, List.set_cons_succ]
  refine wpAnyH_ready (rs := [42]) (by kernel_rfl) (by simp) ?_
  refine AllReadyH.cons rfl (fun K hK => ?_) AllReadyH.nil
  go_simp
  go_at_call 61
  refine (example_any _).mono ?_
  rintro _ x2 ⟨be2, rfl, hce2, hbe2⟩
  have HCE2 := Lib.hid hce2
  have HBE2 := Lib.hid (HNEXT.out _ _ (by first | exact HBASE2.out | exact HBASE2.out.drew) hbe2)
  have hS2 := HKEEP.out _ HBE2.out
  clear hce2 hbe2
  refine hK.out _ _ (by first | with_reducible exact hS0 | with_reducible exact hS | with_reducible exact hS1 | with_reducible exact hT1 | with_reducible exact hS2 | with_reducible exact hT2) (fun hS => ?_)
  clear hK K
  try simp only [Act.put, List.setIfInBounds_toArray, List.set_cons_zero, List.set_cons_succ]
  refine wpAnyH_ready (rs := [43]) (by kernel_rfl) (by simp) ?_
  refine AllReadyH.cons rfl (fun K hK => ?_) AllReadyH.nil
  go_simp
  go_at_call 19
  refine (same_ex (HCODE6.out _ HBE2.out) HCE2.out).mono ?_
  rintro _ y2 ⟨rfl, hby2⟩
  have HBASE3 := Lib.hid (HNEXT.out _ _ HBE2.out hby2)
  have hT2 := HKEEP.out _ HBASE3.out
  clear hby2
  refine hK.out _ _ (by first | with_reducible exact hS0 | with_reducible exact hS | with_reducible exact hS1 | with_reducible exact hT1 | with_reducible exact hS2 | with_reducible exact hT2) (fun hS => ?_)
  clear hK K
  try simp only [Act.put, List.setIfInBounds_toArray, List.set_cons_zero, List.set_cons_succ]
  refine wpAnyH_take (i := 44) (v := ?_) rfl (by kernel_rfl) (by kernel_rfl) (by kernel_rfl) (fun _ _ _ h => h) (Or.inl ⟨by rfl, ?_⟩) hS ?_
  rotate_left
  · (intro wx hSx; (try dsimp only at hSx); go_simp; (try with_reducible rfl))
  simp only [List.getElem_toArray, List.getElem_cons_succ, List.getElem_cons_zero, Act.put, List.setIfInBounds_toArray, List.set_cons_zero, List.set_cons_succ]
  refine wpAnyH_take (i := 45) (v := ?_) rfl (by kernel_rfl) (by kernel_rfl) (by kernel_rfl) (fun _ _ _ h => h) (Or.inl ⟨by rfl, ?_⟩) hS ?_
  rotate_left
  · (intro wx hSx; (try dsimp only at hSx); go_simp; (try with_reducible rfl))
  simp only [List.getElem_toArray, List.getElem_cons_succ, List.getElem_cons_zero, Act.put, List.setIfInBounds_toArray, List.set_cons_zero, List.set_cons_succ]
  refine wpAnyH_done (by kernel_rfl) ?_ _
  clear hS
  go_wp2
  go_ret
  exact ⟨rfl, grow_to HBw.out HBASE3.out⟩

set_option maxHeartbeats 4000000 in
set_option maxRecDepth 100000 in
theorem names_any (w : World) (hA : AllAt w) : Calls Tryz.prog 28 #[] w fun e w' => e = .returned (.bool true) ∧ Below w.heap.size w w' := by
  have HAA : Hid (∀ W, Below w.heap.size w W → AllAt W) := Lib.hid fun W hW => hA.keep hW
  have HNEXT : Hid (∀ x y : World, Below w.heap.size w x → Below x.heap.size x y → Below w.heap.size w y) := Lib.hid fun x y h k => grow_to h k
  have HKC : Hid (∀ (W : World), Calls Tryz.prog 12 #[.agg #[.int .i64 0, .slice none 0 0]] W fun e w' => e = .returned (.tuple #[.int .i64 56, .int .i64 0]) ∧ Below W.heap.size W w') := Lib.hid fun W => check_any 0 none [] 0 W (fun h => absurd h (by decide))
  have HKR : Hid (∀ (W : World), Below w.heap.size w W → Calls Tryz.prog 17 #[.string { data := #[] }] W fun e w' => (∃ A cap, e = .returned (.tuple #[.agg #[.int .i64 0, .slice A 0 cap], .int .i64 55, .int .i64 1])) ∧ Below W.heap.size W w') := Lib.hid fun W hW => by
    have k := pparse_any [] (by decide) W (HAA.out W hW)
    unfold ParseOut at k
    rw [show parseT [] = (55, 1, 0, []) from rfl] at k
    refine Calls.mono (show Calls Tryz.prog 17 #[.string { data := #[] }] W _ from k) ?_
    rintro e w' ⟨⟨A, cap, h1, _, _⟩, hb⟩
    exact ⟨⟨A, cap, h1⟩, hb⟩
  have HKU : Hid (∀ (W : World), Calls Tryz.prog 23 #[.string { data := #[] }] W fun e w' => (∃ A cap, e = .returned (.tuple #[.agg #[.int .i64 0, .slice A 0 cap], .int .i64 54])) ∧ Below W.heap.size W w') := Lib.hid fun W => by
    have k := unpack_any [] (by decide) W
    unfold UnpackOut at k
    rw [show unpackP [] = (54, 0, []) from by decide +kernel] at k
    refine Calls.mono (show Calls Tryz.prog 23 #[.string { data := #[] }] W _ from k) ?_
    rintro e w' ⟨⟨A, cap, h1, _, _⟩, hb⟩
    exact ⟨⟨A, cap, h1⟩, hb⟩
  have HKN : Hid (∀ (W : World), Below w.heap.size w W → Calls Tryz.prog 27 #[] W fun e w' => e = .returned (.bool true) ∧ Below W.heap.size W w') := Lib.hid fun W hW => known_any W (HAA.out W hW)
  clear hA
  go_enter Tryz.func28, Tryz.ntmps28
  go_wp2_with (first
    | (go_at_call 12; refine (HKC.out _).mono ?_; rintro _ w1 ⟨rfl, hb1⟩; have HB1 := Lib.hid hb1; clear hb1)
    | (go_at_call 17; refine (HKR.out _ HB1.out).mono ?_; rintro _ w2 ⟨⟨A2, c2, rfl⟩, hb2⟩; have HB2 := Lib.hid (HNEXT.out _ _ HB1.out hb2); clear hb2)
    | (go_at_call 23; refine (HKU.out _).mono ?_; rintro _ w3 ⟨⟨A3, c3, rfl⟩, hb3⟩; have HB3 := Lib.hid (HNEXT.out _ _ (HB2.out.alloc HB2.out.size _) hb3); clear hb3)
    | (go_at_call 27; refine (HKN.out _ (HB3.out.alloc HB3.out.size _)).mono ?_; rintro _ w4 ⟨rfl, hb4⟩; have HB4 := Lib.hid (HNEXT.out _ _ (HB3.out.alloc HB3.out.size _) hb4); clear hb4))
  go_ret
  exact ⟨rfl, HB4.out⟩
theorem awake_any (w : World) (hA : AllAt w) : Calls Tryz.prog 14 #[] w fun e w' => e = .returned (.bool true) ∧ Below w.heap.size w w' := by
  have HAA : Hid (∀ W, Below w.heap.size w W → AllAt W) := Lib.hid fun W hW => hA.keep hW
  have k1 := known_any w hA
  clear hA
  go_enter Tryz.func14, Tryz.ntmps14
  go_wp2_with (first
    | (go_at_call 27; refine k1.mono ?_; rintro _ w1 ⟨rfl, hb1⟩; have HB1 := Lib.hid hb1; clear hb1)
    | (go_at_call 28; refine (names_any _ (HAA.out _ HB1.out)).mono ?_; rintro _ w2 ⟨rfl, hb2⟩; have HB2 := Lib.hid (grow_to HB1.out hb2); clear hb2))
  go_ret
  exact ⟨rfl, HB2.out⟩
end Go.Proofs.YtiidkgdlngcpgaaGreatDoor
