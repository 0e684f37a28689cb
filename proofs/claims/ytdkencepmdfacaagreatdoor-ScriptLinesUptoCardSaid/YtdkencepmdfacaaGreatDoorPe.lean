/- prog.read (contract). -/
import Derived.Test.YtdkencepmdfacaaGreatDoorKp
import Derived.Test.YtdkencepmdfacaaGreatDoorGr5
import Derived.Test.YtdkencepmdfacaaGreatDoorPw
import Derived.Test.YtdkencepmdfacaaGreatDoorPn
import Derived.Test.YtdkencepmdfacaaGreatDoorQd
import Derived.Test.YtdkencepmdfacaaGreatDoorGr3
import Derived.Test.YtdkencepmdfacaaGreatDoorNumParse2
import Derived.Laws.ResultCell
import Derived.Laws.Rows
import Derived.Deep.QuietTactic
import Derived.Deep.DeepCutAuto
import Derived.Deep.RegionWith
import Derived.BigQuiet
import Derived.BigGuard
set_option maxRecDepth 100000
namespace Go.Proofs.YtdkencepmdfacaaGreatDoor
open Go.RowKit Ieee

theorem opWord_is {o : Nat} (h : o < 25) : opWord o = opText o := by
  have key : ∀ o : Fin 25, opWord o.val = opText o.val := by decide +kernel
  exact key ⟨o, h⟩
theorem ret_cell_tmp {P : Program} {fn : Func} {R : Ending → World → Prop} {a : Act} {w : World} {p u : Tmp} {ty t : TypeId} {d : TypeDesc} (h : fn.results = #[.cell p ty, .tmp u]) {g : Nat} {cs : Array Value} {fr : Nat × Nat} {x : Value}
    (hp : a.tmps.getD p undef = .pointer (some ⟨g, 0, none⟩)) (hx : a.tmps.getD u undef = x) (hg : w.heap[g]? = some (.cells cs t fr)) (hu : P.underlying ty = some d) (hd : (match d with | .struct _ | .array _ _ => true | _ => false) = true) (hi : (P.info? ty).map (·.size) = some cs.size) (hdef : a.defers = [])
    (hR : R (.returned (.tuple #[.agg cs, x])) w) : bodyPost P fn R .ret a w := by
  refine bodyPost_ret (v := .tuple #[.agg cs, x]) ?_ hdef hR
  rw [results_cell_tmp h, hp, hx]
  simp only [asAddr, Sem.run_pure, Result.andThen, run_loadVar_row w g t ty cs fr d hg hu hd hi]
theorem ins_size : (Tryz.prog.info? 102).map (·.size) = some 6 := by kernel_rfl
theorem ret_ins {fn : Func} {R : Ending → World → Prop} {a : Act} {w : World} (h : fn.results = #[.cell 2 102, .tmp 3]) {g : Nat} {v0 v1 v2 v3 v4 v5 x : Value}
    (hp : a.tmps.getD 2 undef = .pointer (some ⟨g, 0, none⟩)) (hx : a.tmps.getD 3 undef = x) (hg : Cells w g 102 #[v0, v1, v2, v3, v4, v5]) (hdef : a.defers = []) (hR : R (.returned (.tuple #[.agg #[v0, v1, v2, v3, v4, v5], x])) w) : bodyPost Tryz.prog fn R .ret a w :=
  ret_cell_tmp h hp hx hg Tryz.underlying102 rfl ins_size hdef hR
theorem ins_store {w : World} {g : Nat} {t : TypeId} {a b c d e f a' b' c' d' e' f' : Value} (h : Cells w g t #[a', b', c', d', e', f']) :
    Cells ((((((w.setCell ⟨g, 0, none⟩ a).setCell ⟨g, 1, none⟩ b).setCell ⟨g, 2, none⟩ c).setCell ⟨g, 3, none⟩ d).setCell ⟨g, 4, none⟩ e).setCell ⟨g, 5, none⟩ f) g t #[a, b, c, d, e, f] :=
  (((((h.set 0 a).set 1 b).set 2 c).set 3 d).set 4 e).set 5 f
theorem ins_below {w0 w : World} {k g : Nat} {a b c d e f : Value} (h : Below k w0 w) (hg : k ≤ g) :
    Below k w0 ((((((w.setCell ⟨g, 0, none⟩ a).setCell ⟨g, 1, none⟩ b).setCell ⟨g, 2, none⟩ c).setCell ⟨g, 3, none⟩ d).setCell ⟨g, 4, none⟩ e).setCell ⟨g, 5, none⟩ f) :=
  (((((h.setCell hg a).setCell hg b).setCell hg c).setCell hg d).setCell hg e).setCell hg f
theorem regs_set (ws : List (List UInt8)) (i : Nat) (hi : i < 3) (G : Value) (u : Nat) (hu : regU ws i = u) :
    (#[G, .int .i64 (regX ws i 0 : Nat), .int .i64 (regX ws i 1 : Nat), .int .i64 (regX ws i 2 : Nat), .int .i64 0, .int .u64 0] : Array Value).setIfInBounds (1 + i) (.int .i64 (u : Nat)) =
      #[G, .int .i64 (regX ws (i + 1) 0 : Nat), .int .i64 (regX ws (i + 1) 1 : Nat), .int .i64 (regX ws (i + 1) 2 : Nat), .int .i64 0, .int .u64 0] := by
  subst hu
  rcases i with _ | _ | _ | i
  · simp [regX]
  · simp [regX]
  · simp [regX]
  · omega
theorem cell_some {w : World} {g : Nat} {t : TypeId} {a b c d e f : Value} (h : Cells w g t #[a, b, c, d, e, f]) (i : Nat) (hi : i < 3) : ∃ v, w.cell? ⟨g, 1 + i, none⟩ = some v := by
  rcases i with _ | _ | _ | i
  · exact ⟨_, h.cell (j := 1) rfl⟩
  · exact ⟨_, h.cell (j := 2) rfl⟩
  · exact ⟨_, h.cell (j := 3) rfl⟩
  · omega
theorem ptr_at {w : World} {g x : Nat} {t : TypeId} (h : Cells w g t #[.pointer (some ⟨x, 1, none⟩), .pointer (some ⟨x, 2, none⟩), .pointer (some ⟨x, 3, none⟩)]) (i : Nat) (hi : i < 3) : w.cell? ⟨g, i, none⟩ = some (.pointer (some ⟨x, 1 + i, none⟩)) := by
  rcases i with _ | _ | _ | i
  · exact h.cell (j := 0) rfl
  · exact h.cell (j := 1) rfl
  · exact h.cell (j := 2) rfl
  · omega
theorem regs_zero (ws : List (List UInt8)) (G : Value) : (#[G, .int .i64 (regX ws 0 0 : Nat), .int .i64 (regX ws 0 1 : Nat), .int .i64 (regX ws 0 2 : Nat), .int .i64 0, .int .u64 0] : Array Value) = #[G, .int .i64 0, .int .i64 0, .int .i64 0, .int .i64 0, .int .u64 0] := by
  simp [regX]

/-- what a line's reader answers -/
def ReadOut (s : List UInt8) (e : Ending) : Prop := ∃ x : Ins, e = .returned (.tuple #[.agg #[.int .i64 x.op, .int .i64 x.a, .int .i64 x.b, .int .i64 x.c, .int .i64 x.n, .int .u64 x.k], .bool (readIns s).isSome]) ∧ ∀ y, readIns s = some y → x = y
theorem ro_fail {s : List UInt8} (h : readIns s = none) (a b c d e : Int) (k : Nat) : ReadOut s (.returned (.tuple #[.agg #[.int .i64 a, .int .i64 b, .int .i64 c, .int .i64 d, .int .i64 e, .int .u64 k], .bool false])) :=
  ⟨⟨a, b, c, d, e, k⟩, by rw [h]; rfl, fun y hy => by rw [h] at hy; cases hy⟩
/-- between two ops: nothing yet, or what the line's op has told -/
def RInv (s : List UInt8) (o g : Nat) (x : Ins) (ok : Bool) : Prop :=
  ((¬ Hits (spl 32 s) o ∨ g ≤ o) → x = ⟨0, 0, 0, 0, 0, 0⟩ ∧ ok = false) ∧ ((Hits (spl 32 s) o ∧ o < g) → ok = (readIns s).isSome ∧ ∀ y, readIns s = some y → x = y)
theorem rinv_zero (s : List UInt8) (o : Nat) : RInv s o 0 ⟨0, 0, 0, 0, 0, 0⟩ false := ⟨fun _ => ⟨rfl, rfl⟩, fun h => absurd h.2 (by omega)⟩
theorem rinv_miss {s : List UInt8} {o g : Nat} {x : Ins} {ok : Bool} (h : RInv s o g x ok) (hm : ¬ (Hits (spl 32 s) o ∧ g = o)) : RInv s o (g + 1) x ok :=
  ⟨fun hh => h.1 (hh.elim .inl fun h2 => .inr (by omega)), fun hh => h.2 ⟨hh.1, by
    rcases Nat.lt_or_ge o g with h3 | h3
    · exact h3
    · exact absurd ⟨hh.1, by omega⟩ hm⟩⟩
theorem rinv_hit {s : List UInt8} {o : Nat} {x : Ins} {ok : Bool} (hh : Hits (spl 32 s) o) (h1 : ok = (readIns s).isSome) (h2 : ∀ y, readIns s = some y → x = y) : RInv s o (o + 1) x ok :=
  ⟨fun h => h.elim (fun h => absurd hh h) (fun h => absurd h (by omega)), fun _ => ⟨h1, h2⟩⟩
theorem rinv_end {s : List UInt8} {o : Nat} {a b c d e : Int} {k : Nat} {ok : Bool} (ho : opOf ((spl 32 s).headD []) = o) (h25 : Hits (spl 32 s) o → o < 25) (h : RInv s o 25 ⟨a, b, c, d, e, k⟩ ok) : ReadOut s (.returned (.tuple #[.agg #[.int .i64 a, .int .i64 b, .int .i64 c, .int .i64 d, .int .i64 e, .int .u64 k], .bool ok])) := by
  by_cases hh : Hits (spl 32 s) o
  · obtain ⟨h1, h2⟩ := h.2 ⟨hh, h25 hh⟩
    exact ⟨_, by rw [h1], h2⟩
  · obtain ⟨h1, h2⟩ := h.1 (.inl hh)
    injection h1 with e1 e2 e3 e4 e5 e6
    subst e1 e2 e3 e4 e5 e6 h2
    exact ro_fail (read_miss ho hh) 0 0 0 0 0 0
theorem str_len (l : List UInt8) : (strOf l).size = l.length := ba_size l
theorem word_two (a d : UInt8) (w : World) : (Instr.index 9 (.string (strOf [a, d])) (.int .i64 0)).run Tryz.prog w = .ok (.int .u8 ((a.toNat : Nat) : Int)) w ∧ (Instr.index 9 (.string (strOf [a, d])) (.int .i64 1)).run Tryz.prog w = .ok (.int .u8 ((d.toNat : Nat) : Int)) w := by
  constructor
  · rw [run_index_string w 9 (strOf [a, d]) .i64 0 Tryz.underlying9]
    rfl
  · rw [run_index_string w 9 (strOf [a, d]) .i64 1 Tryz.underlying9]
    rfl

set_option maxHeartbeats 8000000 in
set_option maxRecDepth 100000 in
theorem pread_any (s : List UInt8) (hs : s.length < 1073741824) (w : World) (hA : AllAt w) :
    Calls Tryz.prog 130 #[.string (strOf s)] w fun e w' => ReadOut s e ∧ Below w.heap.size w w' := by
  obtain ⟨ws, hws⟩ : ∃ ws, spl 32 s = ws := ⟨_, rfl⟩
  obtain ⟨op0, hop0⟩ : ∃ op0, opOf (ws.headD []) = op0 := ⟨_, rfl⟩
  have HWS := Lib.hid hws
  have HOP := Lib.hid hop0
  have HA := Lib.hid (show ∀ W, Below w.heap.size w W → AllAt W from fun W hW => hA.keep hW)
  have HLN := Lib.hid (show ∀ j, (ws.getD j []).length < 1073741824 from fun j => by rw [← hws]; exact Nat.lt_of_le_of_lt (spl_getD_len 32 s j) hs)
  have h25 : Hits ws op0 → op0 < 25 := fun h => (opOf_some hop0 h.1).2.2
  have H25 := Lib.hid h25
  have HW0 := Lib.hid (show ws.headD [] = ws.getD 0 [] from by rw [← hws]; exact spl_head 32 s)
  have ks := fun W => split_any 32 s hs W
  rw [hws] at ks
  have hge : 1 ≤ ws.length := by rw [← hws]; exact spl_ge 32 s
  have hle : ws.length ≤ 1073741824 := by
    rw [← hws, spl_count]
    have : s.count 32 ≤ s.length := List.count_le_length
    omega
  have HWC : Hid (∀ W b, Cells W b 9 (ws.map fun p => Value.string (strOf p)).toArray → ∀ j, j < ws.length → W.cell? ⟨b, j, none⟩ = some (.string (strOf (ws.getD j [])))) := Lib.hid fun W b hW j hj => hW.cell (by
    rw [List.getElem?_toArray, List.getElem?_map, List.getElem?_eq_getElem hj, List.getD_eq_getElem?_getD, List.getElem?_eq_getElem hj]
    rfl)
  obtain ⟨SS, hSS⟩ : ∃ SS, SS = strOf s := ⟨_, rfl⟩
  rw [← hSS] at ks ⊢
  generalize hwn : ws.length = wn at *
  have HWN := Lib.hid hwn
  generalize hwc : (ws.map fun p => Value.string (strOf p)).toArray = wcs at *
  have KS := Lib.hid ks
  have HX0 := Lib.hid (Cells.new w 102 #[.int .i64 0, .int .i64 0, .int .i64 0, .int .i64 0, .int .i64 0, .int .u64 0])
  have HB0 := Lib.hid ((Below.refl w.heap.size w).alloc (Nat.le_refl _) (.cells #[.int .i64 0, .int .i64 0, .int .i64 0, .int .i64 0, .int .i64 0, .int .u64 0] 102))
  clear hwn hwc hws hop0 hA hs h25 ks hSS
  go_enter Tryz.func130, Tryz.ntmps130
  go_upto_region 1 with fail
  generalize w.alloc (.cells #[.int .i64 0, .int .i64 0, .int .i64 0, .int .i64 0, .int .i64 0, .int .u64 0] 102) = w0 at *
  go_upto_region 2 with (go_at_call 49; refine (KS.out _).mono ?_; rintro _ _ ⟨rfl, rfl⟩)
  have HW1 := Lib.hid (Cells.new w0 9 wcs)
  have HX1 := Lib.hid (HX0.out.alloc (.cells wcs 9))
  have HB1 := Lib.hid (HB0.out.alloc HB0.out.size (.cells wcs 9))
  clear KS HX0 HB0
  generalize w0.alloc (.cells wcs 9) = w1 at *
  generalize w0.heap.size = WB at *
  clear w0
  go_wp2_with (go_at_call 63; refine (forms_in _).mono ?_; rintro _ w2 ⟨FB, rfl, hlq, hFq, hBq⟩; have HF2 := Lib.hid hFq; have HLF := Lib.hid hlq; have HW2 := Lib.hid (HW1.out.keep hBq); have HX2 := Lib.hid (HX1.out.keep hBq); have HB2 := Lib.hid (grow_to HB1.out hBq); clear hlq hFq hBq)
  have HNW := Lib.hid (show WB ≠ w.heap.size from fun e => by
    have h1 := HW2.out
    have h2 := HX2.out
    rw [e] at h1
    unfold Cells at h1 h2
    rw [h1] at h2
    injection h2 with h2
    injection h2 with h2 h3
    exact absurd h3 (by decide))
  have HNF := Lib.hid (show FB ≠ w.heap.size from by have := HX1.out.lt; have := HLF.out; omega)
  clear HW1 HX1 HB1 HLF
  clear w1
  have HTB : Hid (∀ W, Turns [w.heap.size] w2 W → Below w.heap.size w W) := Lib.hid fun W hW => HB2.out.trans (hW.below HB2.out.size (by simp))
  clear HB2
  go_loopw [17, 3] (fun gv okv wr => ∃ (g : Nat) (xo xa xb xc xn : Int) (xk : Nat) (ok : Bool), g ≤ 25 ∧ gv = .int .i64 (g : Int) ∧ okv = .bool ok ∧ Cells wr w.heap.size 102 #[.int .i64 xo, .int .i64 xa, .int .i64 xb, .int .i64 xc, .int .i64 xn, .int .u64 (xk : Nat)] ∧ Turns [w.heap.size] w2 wr ∧ RInv s op0 g ⟨xo, xa, xb, xc, xn, xk⟩ ok) (fun gv _ _ => 25 - (intOf gv).toNat)
  case atStart => exact ⟨0, 0, 0, 0, 0, 0, 0, false, Nat.zero_le _, rfl, rfl, HX2.out, Turns.refl _ _, rinv_zero _ _⟩
  case round =>
    obtain ⟨g, xo, xa, xb, xc, xn, xk, ok, hg, rfl, rfl, hX, hT, hI⟩ := hrel
    have HXR := Lib.hid hX
    have HTR := Lib.hid hT
    have HIN := Lib.hid hI
    clear hX hT hI HX2
    by_cases hlt : g < 25
    · have HWR := Lib.hid (HW2.out.turns HTR.out (by simpa using HNW.out))
      have HFR := Lib.hid (HF2.out.turns HTR.out (by simpa using HNF.out))
      obtain ⟨q0, q1, q2, q3⟩ := forms_at HFR.out hlt
      obtain ⟨r, er⟩ : ∃ r : Nat, opRegs (g : Int) = (r : Int) := ⟨(opRegs (g : Int)).toNat, by have := regs_lt (g : Int); omega⟩
      have r3 : r ≤ 3 := by have := regs_lt (g : Int); omega
      have HER := Lib.hid er
      have hom := opMany_eq g r er
      rw [er] at q1
      rw [opWord_is hlt, show (⟨(opText g).toArray⟩ : ByteArray) = strOf (opText g) from rfl] at q0
      clear er
      have p0 := HWC.out _ _ HWR.out 0 (by omega)
      have i0 : (0 : Int) ≤ g := by omega
      have i1 : (g : Int) < 25 := by omega
      have i2 : (0 : Int) < wn := by omega
      have hwg : wrap64 ((g : Int) + 1) = (g : Int) + 1 := by unfold wrap64; omega
      have hw1 : wrap64 ((r : Int) + 1) = (r : Int) + 1 := by unfold wrap64; omega
      have hw2 : wrap64 ((r : Int) + 1 + 1) = (r : Int) + 1 + 1 := by unfold wrap64; omega
      have HLT := Lib.hid (show g + 1 ≤ 25 ∧ g < 25 from ⟨hlt, hlt⟩)
      have HGW := Lib.hid hwg
      clear hwg
      -- which of the four ways
      have hway : (((g : Int) == 0) = true ∨ (((g : Int) == 0) = false ∧ opText g ≠ ws.getD 0 []) ∨ (((g : Int) == 0) = false ∧ opText g = ws.getD 0 [] ∧ wn ≠ opMany g)) ∧ ¬ (Hits ws op0 ∧ g = op0) ∨ (((g : Int) == 0) = false ∧ opText g = ws.getD 0 [] ∧ wn = opMany g) ∧ Hits ws g ∧ op0 = g := by
        by_cases h0 : g = 0
        · refine .inl ⟨.inl (by rw [h0]; rfl), fun h => h.1.1 (by omega)⟩
        · have b0 : ((g : Int) == 0) = false := by rw [beq_eq_false_iff_ne]; omega
          by_cases h1 : opText g = ws.getD 0 []
          · have ho : opOf (ws.headD []) = g := by rw [HW0.out]; exact opOf_hit (by omega) hlt h1
            have hoo : op0 = g := by rw [← HOP.out]; exact ho
            by_cases h2 : wn = opMany g
            · exact .inr ⟨⟨b0, h1, h2⟩, ⟨h0, ho, by rw [HWN.out]; exact h2⟩, hoo⟩
            · refine .inl ⟨.inr (.inr ⟨b0, h1, h2⟩), fun h => h2 ?_⟩
              rw [← HWN.out, h.1.2.2, hoo]
          · refine .inl ⟨.inr (.inl ⟨b0, h1⟩), fun h => h1 ?_⟩
            rw [← HW0.out, h.2]
            exact (opOf_some HOP.out h.1.1).1
      have HNE : Hid (opText g ≠ ws.getD 0 [] → ((strOf (opText g)).toList == (strOf (ws.getD 0 [])).toList) = false) := Lib.hid fun h => by rw [beq_eq_false_iff_ne, str_toList, str_toList]; exact h
      have HP0 : Hid (∀ W, Cells W WB 9 wcs → W.cell? ⟨WB, 0, none⟩ = some (.string (strOf (ws.getD 0 [])))) := Lib.hid fun W hW => HWC.out W WB hW 0 (by omega)
      have HNK := Lib.hid (nk_not (g : Int))
      cases hN : opN (g : Int) <;> cases hK : opK (g : Int)
      · rw [hN] at q2
        rw [hK] at q3
        have HNN := Lib.hid hN
        have HKK := Lib.hid hK
        have hmm : opMany g = r + 1 := by rw [hom, hN, hK]; simp; omega
        clear hN hK hom HNK
        rcases hway with ⟨hway, hmiss⟩ | ⟨⟨b0, b1, b2⟩, hh, hoo⟩
        · have HMI := Lib.hid (rinv_miss HIN.out (by rw [HWS.out]; exact hmiss))
          clear hmiss HIN HER
          rcases hway with b0 | ⟨b0, b1⟩ | ⟨b0, b1, b2⟩
          · clear HNE
            have HP := HP0
            generalize strOf (opText g) = Wd at *
            generalize strOf (ws.getD 0 []) = W0 at *
            go_upto_region 8 with fail
            have HX3 := Lib.hid (HXR.out.alloc (.cells #[.string Wd, .int .i64 (r : Nat), .bool false, .bool false] 104))
            have HT3 := Lib.hid (HTR.out.alloc (.cells #[.string Wd, .int .i64 (r : Nat), .bool false, .bool false] 104))
            have HF3 := Lib.hid (Cells.new wr 104 #[.string Wd, .int .i64 (r : Nat), .bool false, .bool false])
            have HW3 := Lib.hid (HWR.out.alloc (.cells #[.string Wd, .int .i64 (r : Nat), .bool false, .bool false] 104))
            generalize wr.alloc (.cells #[.string Wd, .int .i64 (r : Nat), .bool false, .bool false] 104) = w3 at *
            generalize wr.heap.size = Gf at *
            clear q0 q1 q2 q3 p0 HXR HTR HWR HFR
            clear wr
            have p3 := HP.out w3 HW3.out
            have f0 : w3.cell? ⟨Gf, 0, none⟩ = some (.string Wd) := HF3.out.cell (j := 0) rfl
            go_quiet (fail)
            go_wp2
            exact ⟨⟨g + 1, xo, xa, xb, xc, xn, xk, ok, HLT.out.1, by first | exact up_val HGW.out | rfl, rfl, HX3.out.drewN _, HT3.out.drewN _, HMI.out⟩, by first | exact up_end HLT.out.2 HGW.out | (have hh := HLT.out; simp [intOf]; omega)⟩
          · have hne := HNE.out b1
            clear b1 HNE
            have HP := HP0
            generalize strOf (opText g) = Wd at *
            generalize strOf (ws.getD 0 []) = W0 at *
            go_upto_region 8 with fail
            have HX3 := Lib.hid (HXR.out.alloc (.cells #[.string Wd, .int .i64 (r : Nat), .bool false, .bool false] 104))
            have HT3 := Lib.hid (HTR.out.alloc (.cells #[.string Wd, .int .i64 (r : Nat), .bool false, .bool false] 104))
            have HF3 := Lib.hid (Cells.new wr 104 #[.string Wd, .int .i64 (r : Nat), .bool false, .bool false])
            have HW3 := Lib.hid (HWR.out.alloc (.cells #[.string Wd, .int .i64 (r : Nat), .bool false, .bool false] 104))
            generalize wr.alloc (.cells #[.string Wd, .int .i64 (r : Nat), .bool false, .bool false] 104) = w3 at *
            generalize wr.heap.size = Gf at *
            clear q0 q1 q2 q3 p0 HXR HTR HWR HFR
            clear wr
            have p3 := HP.out w3 HW3.out
            have f0 : w3.cell? ⟨Gf, 0, none⟩ = some (.string Wd) := HF3.out.cell (j := 0) rfl
            go_quiet (fail)
            go_wp2
            exact ⟨⟨g + 1, xo, xa, xb, xc, xn, xk, ok, HLT.out.1, by first | exact up_val HGW.out | rfl, rfl, HX3.out.drewN _, HT3.out.drewN _, HMI.out⟩, by first | exact up_end HLT.out.2 HGW.out | (have hh := HLT.out; simp [intOf]; omega)⟩
          · rw [b1] at q0
            have hl : ((wn : Int) != (r : Int) + 1) = true := by rw [bne_iff_ne]; omega
            clear b1 b2 HNE
            have HP := HP0
            generalize strOf (ws.getD 0 []) = W0 at *
            obtain ⟨Wd, hWd⟩ : ∃ Wd, W0 = Wd := ⟨_, rfl⟩
            subst hWd
            go_upto_region 8 with fail
            have HX3 := Lib.hid (HXR.out.alloc (.cells #[.string W0, .int .i64 (r : Nat), .bool false, .bool false] 104))
            have HT3 := Lib.hid (HTR.out.alloc (.cells #[.string W0, .int .i64 (r : Nat), .bool false, .bool false] 104))
            have HF3 := Lib.hid (Cells.new wr 104 #[.string W0, .int .i64 (r : Nat), .bool false, .bool false])
            have HW3 := Lib.hid (HWR.out.alloc (.cells #[.string W0, .int .i64 (r : Nat), .bool false, .bool false] 104))
            generalize wr.alloc (.cells #[.string W0, .int .i64 (r : Nat), .bool false, .bool false] 104) = w3 at *
            generalize wr.heap.size = Gf at *
            clear q0 q1 q2 q3 p0 HXR HTR HWR HFR
            clear wr
            have p3 := HP.out w3 HW3.out
            have f0 : w3.cell? ⟨Gf, 0, none⟩ = some (.string W0) := HF3.out.cell (j := 0) rfl
            go_quiet (fail)
            go_wp2
            exact ⟨⟨g + 1, xo, xa, xb, xc, xn, xk, ok, HLT.out.1, by first | exact up_val HGW.out | rfl, rfl, HX3.out.drewN _, HT3.out.drewN _, HMI.out⟩, by first | exact up_end HLT.out.2 HGW.out | (have hh := HLT.out; simp [intOf]; omega)⟩
        · replace hoo := hoo.symm
          subst hoo
          obtain ⟨hx0, hok0⟩ := HIN.out.1 (.inr (Nat.le_refl _))
          injection hx0 with e1 e2 e3 e4 e5 e6
          subst e1 e2 e3 e4 e5 e6 hok0
          have HHH := Lib.hid hh
          have hl : ((wn : Int) != (r : Int) + 1) = false := by rw [bne_eq_false_iff_eq]; omega
          have hrw : r + 1 ≤ wn := by omega
          rw [b1] at q0
          clear hh b1 HNE HIN
          have HP := HP0
          generalize strOf (ws.getD 0 []) = W0 at *
          go_upto_region 8 with fail
          have HX3 := Lib.hid (HXR.out.alloc (.cells #[.string W0, .int .i64 (r : Nat), .bool false, .bool false] 104))
          have HT3 := Lib.hid (HTR.out.alloc (.cells #[.string W0, .int .i64 (r : Nat), .bool false, .bool false] 104))
          have HF3 := Lib.hid (Cells.new wr 104 #[.string W0, .int .i64 (r : Nat), .bool false, .bool false])
          have HW3 := Lib.hid (HWR.out.alloc (.cells #[.string W0, .int .i64 (r : Nat), .bool false, .bool false] 104))
          generalize wr.alloc (.cells #[.string W0, .int .i64 (r : Nat), .bool false, .bool false] 104) = w3 at *
          generalize wr.heap.size = Gf at *
          clear q0 q1 q2 q3 p0 HXR HTR HWR HFR
          clear wr
          have p3 := HP.out w3 HW3.out
          have f0 : w3.cell? ⟨Gf, 0, none⟩ = some (.string W0) := HF3.out.cell (j := 0) rfl
          go_quiet (fail)
          generalize hw4 : World.drewN w3 _ = w4
          have HX4 := Lib.hid (show Cells w4 w.heap.size 102 #[.int .i64 0, .int .i64 0, .int .i64 0, .int .i64 0, .int .i64 0, .int .u64 0] from hw4 ▸ HX3.out.drewN _)
          have HT4 := Lib.hid (show Turns [w.heap.size] w2 w4 from hw4 ▸ HT3.out.drewN _)
          have HF4 := Lib.hid (show Cells w4 Gf 104 #[.string W0, .int .i64 (r : Nat), .bool false, .bool false] from hw4 ▸ HF3.out.drewN _)
          have HW4 := Lib.hid (show Cells w4 WB 9 wcs from hw4 ▸ HW3.out.drewN _)
          have HNG := Lib.hid (show Gf ≠ w.heap.size from fun e => by
            have h1 := HF4.out
            have h2 := HX4.out
            rw [e] at h1
            unfold Cells at h1 h2
            rw [h1] at h2
            injection h2 with h2
            injection h2 with h2 h3
            exact absurd h3 (by decide))
          clear hw4 HX3 HT3 HF3 HW3 p3 f0 hl
          clear w3
          have c0 : w4.cell? ⟨w.heap.size, 0, none⟩ = some (.int .i64 0) := HX4.out.cell (j := 0) rfl
          have z0 := HX4.out.fz 0
          go_upto_region 10 with fail
          have HX5 := Lib.hid (HX4.out.set 0 (.int .i64 (g : Nat)))
          have HT5 := Lib.hid (HT4.out.set (p := ⟨w.heap.size, 0, none⟩) (.inl (by simp)) (.int .i64 (g : Nat)))
          have HF5 := Lib.hid (HF4.out.far (a := ⟨w.heap.size, 0, none⟩) HNG.out (.int .i64 (g : Nat)))
          have HW5 := Lib.hid (HW4.out.far (a := ⟨w.heap.size, 0, none⟩) HNW.out (.int .i64 (g : Nat)))
          clear HX4 HT4 HF4 HW4 c0 z0
          generalize w4.setCell ⟨w.heap.size, 0, none⟩ (.int .i64 (g : Nat)) = w5 at *
          clear w4
          have f1 : w5.cell? ⟨Gf, 1, none⟩ = some (.int .i64 (r : Nat)) := HF5.out.cell (j := 1) rfl
          have f1a : ∀ Z, (w5.alloc Z).cell? ⟨Gf, 1, none⟩ = some (.int .i64 (r : Nat)) := fun Z => (HF5.out.alloc Z).cell (j := 1) rfl
          have i5 : (0 : Int) ≤ r := by omega
          have i6 : (r : Int) ≤ 3 := by omega
          go_wp2
          have HP6 := Lib.hid (Cells.new w5 89 #[.pointer (some ⟨w.heap.size, 1, none⟩), .pointer (some ⟨w.heap.size, 2, none⟩), .pointer (some ⟨w.heap.size, 3, none⟩)])
          have HX6 := Lib.hid (HX5.out.alloc (.cells #[.pointer (some ⟨w.heap.size, 1, none⟩), .pointer (some ⟨w.heap.size, 2, none⟩), .pointer (some ⟨w.heap.size, 3, none⟩)] 89))
          have HT6 := Lib.hid (HT5.out.alloc (.cells #[.pointer (some ⟨w.heap.size, 1, none⟩), .pointer (some ⟨w.heap.size, 2, none⟩), .pointer (some ⟨w.heap.size, 3, none⟩)] 89))
          have HF6 := Lib.hid (HF5.out.alloc (.cells #[.pointer (some ⟨w.heap.size, 1, none⟩), .pointer (some ⟨w.heap.size, 2, none⟩), .pointer (some ⟨w.heap.size, 3, none⟩)] 89))
          have HW6 := Lib.hid (HW5.out.alloc (.cells #[.pointer (some ⟨w.heap.size, 1, none⟩), .pointer (some ⟨w.heap.size, 2, none⟩), .pointer (some ⟨w.heap.size, 3, none⟩)] 89))
          have HNP := Lib.hid (show w5.heap.size ≠ w.heap.size from Nat.ne_of_gt HX5.out.lt)
          generalize w5.alloc (.cells #[.pointer (some ⟨w.heap.size, 1, none⟩), .pointer (some ⟨w.heap.size, 2, none⟩), .pointer (some ⟨w.heap.size, 3, none⟩)] 89) = w6 at *
          generalize w5.heap.size = PB at *
          clear HX5 HT5 HF5 HW5 f1 f1a i5 i6
          clear w5
          go_loopw [59] (fun iv wx => ∃ i : Nat, i ≤ r ∧ iv = .int .i64 (i : Int) ∧ (∀ j : Nat, j < i → (regOf (ws.getD (1 + j) [])).isSome = true) ∧ Cells wx w.heap.size 102 #[.int .i64 (g : Nat), .int .i64 (regX ws i 0 : Nat), .int .i64 (regX ws i 1 : Nat), .int .i64 (regX ws i 2 : Nat), .int .i64 0, .int .u64 0] ∧ Turns [w.heap.size] w6 wx) (fun iv _ => r - (intOf iv).toNat)
          case atStart => exact ⟨0, Nat.zero_le _, rfl, fun j hj => absurd hj (by omega), by rw [regs_zero]; exact HX6.out, Turns.refl _ _⟩
          case round =>
            obtain ⟨i, hi, rfl, hj, hX, hT⟩ := hrel
            have HXX := Lib.hid hX
            have HTX := Lib.hid hT
            have HJ := Lib.hid hj
            clear hX hT hj HX6
            have HWX := Lib.hid (HW6.out.turns HTX.out (by simpa using HNW.out))
            by_cases hlt2 : i < r
            · have h3i : i < 3 := by omega
              have l0 : wr.cell? ⟨PB, i, none⟩ = some (.pointer (some ⟨w.heap.size, 1 + i, none⟩)) := ptr_at (HP6.out.turns HTX.out (by simpa using HNP.out)) i h3i
              have l1 : wr.cell? ⟨WB, i + 1, none⟩ = some (.string (strOf (ws.getD (1 + i) []))) := by have := HWC.out _ _ HWX.out (i + 1) (by omega); rw [Nat.add_comm 1 i]; exact this
              have i2 : (0 : Int) ≤ i := by omega
              have i3 : (i : Int) < r := by omega
              have i7 : (0 : Int) ≤ (i : Int) + 1 := by omega
              have i8 : (i : Int) + 1 < wn := by omega
              have hwi : wrap64 ((i : Int) + 1) = (i : Int) + 1 := by unfold wrap64; omega
              have HLI := Lib.hid (show i < r ∧ i < 3 from ⟨hlt2, h3i⟩)
              clear hlt2 h3i hi hlt r3 hw1 hw2 hrw b2 hmm hge hle i0 i1
              cases hr : regOf (ws.getD (1 + i) []) with
              | some u =>
                obtain ⟨d, hd, d1, d2, hu⟩ := reg_word hr
                have HU := Lib.hid (show regU ws i = u from by unfold regU; rw [hr]; rfl)
                have HJ2 : Hid (∀ j : Nat, j < i + 1 → (regOf (ws.getD (1 + j) [])).isSome = true) := Lib.hid fun j hj => by
                  rcases Nat.lt_or_ge j i with h | h
                  · exact HJ.out j h
                  · obtain rfl : j = i := by omega
                    rw [hr]; rfl
                rw [hd] at l1
                have n0 : ∀ W, (Instr.index 9 (.string (strOf [114, d])) (.int .i64 0)).run Tryz.prog W = .ok (.int .u8 114) W := fun W => (word_two 114 d W).1
                have n1 := fun W => (word_two 114 d W).2
                have n2 : ((strOf [114, d]).size : Int) = 2 := rfl
                have n4 : ¬ (((d.toNat : Nat) : Int) < 48) := by omega
                have n5 : ¬ ((56 : Int) ≤ ((d.toNat : Nat) : Int)) := by omega
                have n6 : IntKind.u8.wrap (((d.toNat : Nat) : Int) - 48) = ((u : Nat) : Int) := by rw [IntKind.wrap_u8]; omega
                have n7 : wrap64 ((u : Nat) : Int) = ((u : Nat) : Int) := by unfold wrap64; omega
                have c1 := cell_some HXX.out i HLI.out.2
                obtain ⟨v1, c1⟩ := c1
                have z1 := HXX.out.fz (1 + i)
                have HX8 := Lib.hid (show Cells (wr.setCell ⟨w.heap.size, 1 + i, none⟩ (.int .i64 (u : Nat))) w.heap.size 102 #[.int .i64 (g : Nat), .int .i64 (regX ws (i + 1) 0 : Nat), .int .i64 (regX ws (i + 1) 1 : Nat), .int .i64 (regX ws (i + 1) 2 : Nat), .int .i64 0, .int .u64 0] from by have := HXX.out.set (1 + i) (.int .i64 (u : Nat)); rw [regs_set ws i HLI.out.2 _ u HU.out] at this; exact this)
                have HT8 := Lib.hid (HTX.out.set (p := ⟨w.heap.size, 1 + i, none⟩) (.inl (by simp)) (.int .i64 (u : Nat)))
                clear hr hd d1 d2 hu HXX HTX HJ
                generalize strOf [114, d] = Sd at *
                generalize d.toNat = dn at *
                go_wp2
                exact ⟨⟨i + 1, HLI.out.1, up_val hwi, HJ2.out, HX8.out, HT8.out⟩, up_end HLI.out.1 hwi⟩
              | none =>
                have HNO := Lib.hid (read_reg (s := s) (o := g) (r := r) (i := i) (by rw [HWS.out]; exact HHH.out) HER.out (by have := regs_lt (g : Int); have := HER.out; omega) HLI.out.1 (by rw [HWS.out]; exact hr))
                have HB8 := Lib.hid (HTB.out _ (HT6.out.trans HTX.out))
                generalize regX ws i 0 = ra at *
                generalize regX ws i 1 = rb at *
                generalize regX ws i 2 = rc at *
                have c0 : wr.cell? ⟨w.heap.size, 0, none⟩ = some (.int .i64 (g : Nat)) := HXX.out.cell (j := 0) rfl
                have c1 : wr.cell? ⟨w.heap.size, 1, none⟩ = some (.int .i64 (ra : Nat)) := HXX.out.cell (j := 1) rfl
                have c2 : wr.cell? ⟨w.heap.size, 2, none⟩ = some (.int .i64 (rb : Nat)) := HXX.out.cell (j := 2) rfl
                have c3 : wr.cell? ⟨w.heap.size, 3, none⟩ = some (.int .i64 (rc : Nat)) := HXX.out.cell (j := 3) rfl
                have c4 : wr.cell? ⟨w.heap.size, 4, none⟩ = some (.int .i64 0) := HXX.out.cell (j := 4) rfl
                have c5 : wr.cell? ⟨w.heap.size, 5, none⟩ = some (.int .u64 0) := HXX.out.cell (j := 5) rfl
                have z0 := HXX.out.fz 0
                have z1 := HXX.out.fz 1
                have z2 := HXX.out.fz 2
                have z3 := HXX.out.fz 3
                have z4 := HXX.out.fz 4
                have z5 := HXX.out.fz 5
                rcases reg_none hr with hl2 | ⟨a, d, hd, ha | ⟨ha, hd2⟩ | ⟨ha, hd2, hd3⟩⟩
                · have n2 : (((strOf (ws.getD (1 + i) [])).size : Int) != 2) = true := by rw [bne_iff_ne, str_len]; omega
                  clear hr hl2 HTX HJ
                  generalize strOf (ws.getD (1 + i) []) = Sd at *
                  go_wp2
                  generalize hW9 : World.setCell _ _ _ = W9
                  exact ret_ins rfl rfl rfl (hW9 ▸ ins_store HXX.out) rfl ⟨ro_fail HNO.out _ _ _ _ _ _, hW9 ▸ ins_below HB8.out (Nat.le_refl _)⟩
                · skip
                  rw [hd] at l1
                  have n0 := fun W => (word_two a d W).1
                  have n3 : (((a.toNat : Nat) : Int) != 114) = true := by rw [bne_iff_ne]; intro e; exact ha (UInt8.toNat_inj.1 (by show a.toNat = 114; omega))
                  clear ha
                  have n1 := fun W => (word_two a d W).2
                  have n2 : ((strOf [a, d]).size : Int) = 2 := rfl
                  clear hr hd HTX HJ
                  generalize strOf [a, d] = Sd at *
                  generalize a.toNat = an at *
                  generalize d.toNat = dn at *
                  go_wp2
                  generalize hW9 : World.setCell _ _ _ = W9
                  exact ret_ins rfl rfl rfl (hW9 ▸ ins_store HXX.out) rfl ⟨ro_fail HNO.out _ _ _ _ _ _, hW9 ▸ ins_below HB8.out (Nat.le_refl _)⟩
                · subst ha
                  rw [hd] at l1
                  have n0 : ∀ W, (Instr.index 9 (.string (strOf [114, d])) (.int .i64 0)).run Tryz.prog W = .ok (.int .u8 114) W := fun W => (word_two 114 d W).1
                  have n1 := fun W => (word_two 114 d W).2
                  have n2 : ((strOf [114, d]).size : Int) = 2 := rfl
                  have n4 : (((d.toNat : Nat) : Int) < 48) := by omega
                  clear hd2
                  clear hr hd HTX HJ
                  generalize strOf [114, d] = Sd at *
                  generalize d.toNat = dn at *
                  go_wp2
                  generalize hW9 : World.setCell _ _ _ = W9
                  exact ret_ins rfl rfl rfl (hW9 ▸ ins_store HXX.out) rfl ⟨ro_fail HNO.out _ _ _ _ _ _, hW9 ▸ ins_below HB8.out (Nat.le_refl _)⟩
                · subst ha
                  rw [hd] at l1
                  have n0 : ∀ W, (Instr.index 9 (.string (strOf [114, d])) (.int .i64 0)).run Tryz.prog W = .ok (.int .u8 114) W := fun W => (word_two 114 d W).1
                  have n1 := fun W => (word_two 114 d W).2
                  have n2 : ((strOf [114, d]).size : Int) = 2 := rfl
                  have n4 : ¬ (((d.toNat : Nat) : Int) < 48) := by omega
                  have n5 : ((56 : Int) ≤ ((d.toNat : Nat) : Int)) := by omega
                  clear hd2 hd3
                  clear hr hd HTX HJ
                  generalize strOf [114, d] = Sd at *
                  generalize d.toNat = dn at *
                  go_wp2
                  generalize hW9 : World.setCell _ _ _ = W9
                  exact ret_ins rfl rfl rfl (hW9 ▸ ins_store HXX.out) rfl ⟨ro_fail HNO.out _ _ _ _ _ _, hW9 ▸ ins_below HB8.out (Nat.le_refl _)⟩
            · obtain rfl : i = r := by omega
              have i3 : ¬ (i : Int) < i := by omega
              have HRA := Lib.hid (read_all (s := s) (o := g) (r := i) (by rw [HWS.out]; exact HHH.out) HER.out (by rw [HWS.out]; exact HJ.out))
              have HFX := Lib.hid (HF6.out.turns HTX.out (by simpa using HNG.out))
              have HTT := Lib.hid (HT6.out.trans HTX.out)
              have f2 : wr.cell? ⟨Gf, 2, none⟩ = some (.bool false) := HFX.out.cell (j := 2) rfl
              have f3 : wr.cell? ⟨Gf, 3, none⟩ = some (.bool false) := HFX.out.cell (j := 3) rfl
              rw [HWS.out] at HRA
              clear HJ HP6 HF6 HW6 HT6 HTX hi hlt2
              have HEND := Lib.hid (rinv_hit (s := s) (o := g) (x := ⟨(g : Nat), (regX ws i 0 : Nat), (regX ws i 1 : Nat), (regX ws i 2 : Nat), 0, 0⟩) (ok := true) (by rw [HWS.out]; exact HHH.out) (by rw [HRA.out]; unfold readTail; rw [HNN.out, HKK.out]; rfl) (fun y hy => by rw [HRA.out] at hy; unfold readTail at hy; rw [HNN.out, HKK.out] at hy; injection hy))
              clear hlt r3 hw1 hw2 hrw b2 hmm hge hle i0 i1
              go_wp2
              exact ⟨⟨g + 1, _, _, _, _, _, _, _, HLT.out.1, by first | exact up_val HGW.out | rfl, rfl, HXX.out, HTT.out, HEND.out⟩, by first | exact up_end HLT.out.2 HGW.out | (have hh := HLT.out; simp [intOf]; omega)⟩
      · rw [hN] at q2
        rw [hK] at q3
        have HNN := Lib.hid hN
        have HKK := Lib.hid hK
        have hmm : opMany g = r + 2 := by rw [hom, hN, hK]; simp; omega
        clear hN hK hom HNK
        rcases hway with ⟨hway, hmiss⟩ | ⟨⟨b0, b1, b2⟩, hh, hoo⟩
        · have HMI := Lib.hid (rinv_miss HIN.out (by rw [HWS.out]; exact hmiss))
          clear hmiss HIN HER
          rcases hway with b0 | ⟨b0, b1⟩ | ⟨b0, b1, b2⟩
          · clear HNE
            have HP := HP0
            generalize strOf (opText g) = Wd at *
            generalize strOf (ws.getD 0 []) = W0 at *
            go_upto_region 8 with fail
            have HX3 := Lib.hid (HXR.out.alloc (.cells #[.string Wd, .int .i64 (r : Nat), .bool false, .bool true] 104))
            have HT3 := Lib.hid (HTR.out.alloc (.cells #[.string Wd, .int .i64 (r : Nat), .bool false, .bool true] 104))
            have HF3 := Lib.hid (Cells.new wr 104 #[.string Wd, .int .i64 (r : Nat), .bool false, .bool true])
            have HW3 := Lib.hid (HWR.out.alloc (.cells #[.string Wd, .int .i64 (r : Nat), .bool false, .bool true] 104))
            generalize wr.alloc (.cells #[.string Wd, .int .i64 (r : Nat), .bool false, .bool true] 104) = w3 at *
            generalize wr.heap.size = Gf at *
            clear q0 q1 q2 q3 p0 HXR HTR HWR HFR
            clear wr
            have p3 := HP.out w3 HW3.out
            have f0 : w3.cell? ⟨Gf, 0, none⟩ = some (.string Wd) := HF3.out.cell (j := 0) rfl
            go_quiet (fail)
            go_wp2
            exact ⟨⟨g + 1, xo, xa, xb, xc, xn, xk, ok, HLT.out.1, by first | exact up_val HGW.out | rfl, rfl, HX3.out.drewN _, HT3.out.drewN _, HMI.out⟩, by first | exact up_end HLT.out.2 HGW.out | (have hh := HLT.out; simp [intOf]; omega)⟩
          · have hne := HNE.out b1
            clear b1 HNE
            have HP := HP0
            generalize strOf (opText g) = Wd at *
            generalize strOf (ws.getD 0 []) = W0 at *
            go_upto_region 8 with fail
            have HX3 := Lib.hid (HXR.out.alloc (.cells #[.string Wd, .int .i64 (r : Nat), .bool false, .bool true] 104))
            have HT3 := Lib.hid (HTR.out.alloc (.cells #[.string Wd, .int .i64 (r : Nat), .bool false, .bool true] 104))
            have HF3 := Lib.hid (Cells.new wr 104 #[.string Wd, .int .i64 (r : Nat), .bool false, .bool true])
            have HW3 := Lib.hid (HWR.out.alloc (.cells #[.string Wd, .int .i64 (r : Nat), .bool false, .bool true] 104))
            generalize wr.alloc (.cells #[.string Wd, .int .i64 (r : Nat), .bool false, .bool true] 104) = w3 at *
            generalize wr.heap.size = Gf at *
            clear q0 q1 q2 q3 p0 HXR HTR HWR HFR
            clear wr
            have p3 := HP.out w3 HW3.out
            have f0 : w3.cell? ⟨Gf, 0, none⟩ = some (.string Wd) := HF3.out.cell (j := 0) rfl
            go_quiet (fail)
            go_wp2
            exact ⟨⟨g + 1, xo, xa, xb, xc, xn, xk, ok, HLT.out.1, by first | exact up_val HGW.out | rfl, rfl, HX3.out.drewN _, HT3.out.drewN _, HMI.out⟩, by first | exact up_end HLT.out.2 HGW.out | (have hh := HLT.out; simp [intOf]; omega)⟩
          · rw [b1] at q0
            have hl : ((wn : Int) != (r : Int) + 1 + 1) = true := by rw [bne_iff_ne]; omega
            clear b1 b2 HNE
            have HP := HP0
            generalize strOf (ws.getD 0 []) = W0 at *
            obtain ⟨Wd, hWd⟩ : ∃ Wd, W0 = Wd := ⟨_, rfl⟩
            subst hWd
            go_upto_region 8 with fail
            have HX3 := Lib.hid (HXR.out.alloc (.cells #[.string W0, .int .i64 (r : Nat), .bool false, .bool true] 104))
            have HT3 := Lib.hid (HTR.out.alloc (.cells #[.string W0, .int .i64 (r : Nat), .bool false, .bool true] 104))
            have HF3 := Lib.hid (Cells.new wr 104 #[.string W0, .int .i64 (r : Nat), .bool false, .bool true])
            have HW3 := Lib.hid (HWR.out.alloc (.cells #[.string W0, .int .i64 (r : Nat), .bool false, .bool true] 104))
            generalize wr.alloc (.cells #[.string W0, .int .i64 (r : Nat), .bool false, .bool true] 104) = w3 at *
            generalize wr.heap.size = Gf at *
            clear q0 q1 q2 q3 p0 HXR HTR HWR HFR
            clear wr
            have p3 := HP.out w3 HW3.out
            have f0 : w3.cell? ⟨Gf, 0, none⟩ = some (.string W0) := HF3.out.cell (j := 0) rfl
            go_quiet (fail)
            go_wp2
            exact ⟨⟨g + 1, xo, xa, xb, xc, xn, xk, ok, HLT.out.1, by first | exact up_val HGW.out | rfl, rfl, HX3.out.drewN _, HT3.out.drewN _, HMI.out⟩, by first | exact up_end HLT.out.2 HGW.out | (have hh := HLT.out; simp [intOf]; omega)⟩
        · replace hoo := hoo.symm
          subst hoo
          obtain ⟨hx0, hok0⟩ := HIN.out.1 (.inr (Nat.le_refl _))
          injection hx0 with e1 e2 e3 e4 e5 e6
          subst e1 e2 e3 e4 e5 e6 hok0
          have HHH := Lib.hid hh
          have hl : ((wn : Int) != (r : Int) + 1 + 1) = false := by rw [bne_eq_false_iff_eq]; omega
          have hrw : r + 1 ≤ wn := by omega
          rw [b1] at q0
          clear hh b1 HNE HIN
          have HP := HP0
          generalize strOf (ws.getD 0 []) = W0 at *
          go_upto_region 8 with fail
          have HX3 := Lib.hid (HXR.out.alloc (.cells #[.string W0, .int .i64 (r : Nat), .bool false, .bool true] 104))
          have HT3 := Lib.hid (HTR.out.alloc (.cells #[.string W0, .int .i64 (r : Nat), .bool false, .bool true] 104))
          have HF3 := Lib.hid (Cells.new wr 104 #[.string W0, .int .i64 (r : Nat), .bool false, .bool true])
          have HW3 := Lib.hid (HWR.out.alloc (.cells #[.string W0, .int .i64 (r : Nat), .bool false, .bool true] 104))
          generalize wr.alloc (.cells #[.string W0, .int .i64 (r : Nat), .bool false, .bool true] 104) = w3 at *
          generalize wr.heap.size = Gf at *
          clear q0 q1 q2 q3 p0 HXR HTR HWR HFR
          clear wr
          have p3 := HP.out w3 HW3.out
          have f0 : w3.cell? ⟨Gf, 0, none⟩ = some (.string W0) := HF3.out.cell (j := 0) rfl
          go_quiet (fail)
          generalize hw4 : World.drewN w3 _ = w4
          have HX4 := Lib.hid (show Cells w4 w.heap.size 102 #[.int .i64 0, .int .i64 0, .int .i64 0, .int .i64 0, .int .i64 0, .int .u64 0] from hw4 ▸ HX3.out.drewN _)
          have HT4 := Lib.hid (show Turns [w.heap.size] w2 w4 from hw4 ▸ HT3.out.drewN _)
          have HF4 := Lib.hid (show Cells w4 Gf 104 #[.string W0, .int .i64 (r : Nat), .bool false, .bool true] from hw4 ▸ HF3.out.drewN _)
          have HW4 := Lib.hid (show Cells w4 WB 9 wcs from hw4 ▸ HW3.out.drewN _)
          have HNG := Lib.hid (show Gf ≠ w.heap.size from fun e => by
            have h1 := HF4.out
            have h2 := HX4.out
            rw [e] at h1
            unfold Cells at h1 h2
            rw [h1] at h2
            injection h2 with h2
            injection h2 with h2 h3
            exact absurd h3 (by decide))
          clear hw4 HX3 HT3 HF3 HW3 p3 f0 hl
          clear w3
          have c0 : w4.cell? ⟨w.heap.size, 0, none⟩ = some (.int .i64 0) := HX4.out.cell (j := 0) rfl
          have z0 := HX4.out.fz 0
          go_upto_region 10 with fail
          have HX5 := Lib.hid (HX4.out.set 0 (.int .i64 (g : Nat)))
          have HT5 := Lib.hid (HT4.out.set (p := ⟨w.heap.size, 0, none⟩) (.inl (by simp)) (.int .i64 (g : Nat)))
          have HF5 := Lib.hid (HF4.out.far (a := ⟨w.heap.size, 0, none⟩) HNG.out (.int .i64 (g : Nat)))
          have HW5 := Lib.hid (HW4.out.far (a := ⟨w.heap.size, 0, none⟩) HNW.out (.int .i64 (g : Nat)))
          clear HX4 HT4 HF4 HW4 c0 z0
          generalize w4.setCell ⟨w.heap.size, 0, none⟩ (.int .i64 (g : Nat)) = w5 at *
          clear w4
          have f1 : w5.cell? ⟨Gf, 1, none⟩ = some (.int .i64 (r : Nat)) := HF5.out.cell (j := 1) rfl
          have f1a : ∀ Z, (w5.alloc Z).cell? ⟨Gf, 1, none⟩ = some (.int .i64 (r : Nat)) := fun Z => (HF5.out.alloc Z).cell (j := 1) rfl
          have i5 : (0 : Int) ≤ r := by omega
          have i6 : (r : Int) ≤ 3 := by omega
          go_wp2
          have HP6 := Lib.hid (Cells.new w5 89 #[.pointer (some ⟨w.heap.size, 1, none⟩), .pointer (some ⟨w.heap.size, 2, none⟩), .pointer (some ⟨w.heap.size, 3, none⟩)])
          have HX6 := Lib.hid (HX5.out.alloc (.cells #[.pointer (some ⟨w.heap.size, 1, none⟩), .pointer (some ⟨w.heap.size, 2, none⟩), .pointer (some ⟨w.heap.size, 3, none⟩)] 89))
          have HT6 := Lib.hid (HT5.out.alloc (.cells #[.pointer (some ⟨w.heap.size, 1, none⟩), .pointer (some ⟨w.heap.size, 2, none⟩), .pointer (some ⟨w.heap.size, 3, none⟩)] 89))
          have HF6 := Lib.hid (HF5.out.alloc (.cells #[.pointer (some ⟨w.heap.size, 1, none⟩), .pointer (some ⟨w.heap.size, 2, none⟩), .pointer (some ⟨w.heap.size, 3, none⟩)] 89))
          have HW6 := Lib.hid (HW5.out.alloc (.cells #[.pointer (some ⟨w.heap.size, 1, none⟩), .pointer (some ⟨w.heap.size, 2, none⟩), .pointer (some ⟨w.heap.size, 3, none⟩)] 89))
          have HNP := Lib.hid (show w5.heap.size ≠ w.heap.size from Nat.ne_of_gt HX5.out.lt)
          generalize w5.alloc (.cells #[.pointer (some ⟨w.heap.size, 1, none⟩), .pointer (some ⟨w.heap.size, 2, none⟩), .pointer (some ⟨w.heap.size, 3, none⟩)] 89) = w6 at *
          generalize w5.heap.size = PB at *
          clear HX5 HT5 HF5 HW5 f1 f1a i5 i6
          clear w5
          go_loopw [59] (fun iv wx => ∃ i : Nat, i ≤ r ∧ iv = .int .i64 (i : Int) ∧ (∀ j : Nat, j < i → (regOf (ws.getD (1 + j) [])).isSome = true) ∧ Cells wx w.heap.size 102 #[.int .i64 (g : Nat), .int .i64 (regX ws i 0 : Nat), .int .i64 (regX ws i 1 : Nat), .int .i64 (regX ws i 2 : Nat), .int .i64 0, .int .u64 0] ∧ Turns [w.heap.size] w6 wx) (fun iv _ => r - (intOf iv).toNat)
          case atStart => exact ⟨0, Nat.zero_le _, rfl, fun j hj => absurd hj (by omega), by rw [regs_zero]; exact HX6.out, Turns.refl _ _⟩
          case round =>
            obtain ⟨i, hi, rfl, hj, hX, hT⟩ := hrel
            have HXX := Lib.hid hX
            have HTX := Lib.hid hT
            have HJ := Lib.hid hj
            clear hX hT hj HX6
            have HWX := Lib.hid (HW6.out.turns HTX.out (by simpa using HNW.out))
            by_cases hlt2 : i < r
            · have h3i : i < 3 := by omega
              have l0 : wr.cell? ⟨PB, i, none⟩ = some (.pointer (some ⟨w.heap.size, 1 + i, none⟩)) := ptr_at (HP6.out.turns HTX.out (by simpa using HNP.out)) i h3i
              have l1 : wr.cell? ⟨WB, i + 1, none⟩ = some (.string (strOf (ws.getD (1 + i) []))) := by have := HWC.out _ _ HWX.out (i + 1) (by omega); rw [Nat.add_comm 1 i]; exact this
              have i2 : (0 : Int) ≤ i := by omega
              have i3 : (i : Int) < r := by omega
              have i7 : (0 : Int) ≤ (i : Int) + 1 := by omega
              have i8 : (i : Int) + 1 < wn := by omega
              have hwi : wrap64 ((i : Int) + 1) = (i : Int) + 1 := by unfold wrap64; omega
              have HLI := Lib.hid (show i < r ∧ i < 3 from ⟨hlt2, h3i⟩)
              clear hlt2 h3i hi hlt r3 hw1 hw2 hrw b2 hmm hge hle i0 i1
              cases hr : regOf (ws.getD (1 + i) []) with
              | some u =>
                obtain ⟨d, hd, d1, d2, hu⟩ := reg_word hr
                have HU := Lib.hid (show regU ws i = u from by unfold regU; rw [hr]; rfl)
                have HJ2 : Hid (∀ j : Nat, j < i + 1 → (regOf (ws.getD (1 + j) [])).isSome = true) := Lib.hid fun j hj => by
                  rcases Nat.lt_or_ge j i with h | h
                  · exact HJ.out j h
                  · obtain rfl : j = i := by omega
                    rw [hr]; rfl
                rw [hd] at l1
                have n0 : ∀ W, (Instr.index 9 (.string (strOf [114, d])) (.int .i64 0)).run Tryz.prog W = .ok (.int .u8 114) W := fun W => (word_two 114 d W).1
                have n1 := fun W => (word_two 114 d W).2
                have n2 : ((strOf [114, d]).size : Int) = 2 := rfl
                have n4 : ¬ (((d.toNat : Nat) : Int) < 48) := by omega
                have n5 : ¬ ((56 : Int) ≤ ((d.toNat : Nat) : Int)) := by omega
                have n6 : IntKind.u8.wrap (((d.toNat : Nat) : Int) - 48) = ((u : Nat) : Int) := by rw [IntKind.wrap_u8]; omega
                have n7 : wrap64 ((u : Nat) : Int) = ((u : Nat) : Int) := by unfold wrap64; omega
                have c1 := cell_some HXX.out i HLI.out.2
                obtain ⟨v1, c1⟩ := c1
                have z1 := HXX.out.fz (1 + i)
                have HX8 := Lib.hid (show Cells (wr.setCell ⟨w.heap.size, 1 + i, none⟩ (.int .i64 (u : Nat))) w.heap.size 102 #[.int .i64 (g : Nat), .int .i64 (regX ws (i + 1) 0 : Nat), .int .i64 (regX ws (i + 1) 1 : Nat), .int .i64 (regX ws (i + 1) 2 : Nat), .int .i64 0, .int .u64 0] from by have := HXX.out.set (1 + i) (.int .i64 (u : Nat)); rw [regs_set ws i HLI.out.2 _ u HU.out] at this; exact this)
                have HT8 := Lib.hid (HTX.out.set (p := ⟨w.heap.size, 1 + i, none⟩) (.inl (by simp)) (.int .i64 (u : Nat)))
                clear hr hd d1 d2 hu HXX HTX HJ
                generalize strOf [114, d] = Sd at *
                generalize d.toNat = dn at *
                go_wp2
                exact ⟨⟨i + 1, HLI.out.1, up_val hwi, HJ2.out, HX8.out, HT8.out⟩, up_end HLI.out.1 hwi⟩
              | none =>
                have HNO := Lib.hid (read_reg (s := s) (o := g) (r := r) (i := i) (by rw [HWS.out]; exact HHH.out) HER.out (by have := regs_lt (g : Int); have := HER.out; omega) HLI.out.1 (by rw [HWS.out]; exact hr))
                have HB8 := Lib.hid (HTB.out _ (HT6.out.trans HTX.out))
                generalize regX ws i 0 = ra at *
                generalize regX ws i 1 = rb at *
                generalize regX ws i 2 = rc at *
                have c0 : wr.cell? ⟨w.heap.size, 0, none⟩ = some (.int .i64 (g : Nat)) := HXX.out.cell (j := 0) rfl
                have c1 : wr.cell? ⟨w.heap.size, 1, none⟩ = some (.int .i64 (ra : Nat)) := HXX.out.cell (j := 1) rfl
                have c2 : wr.cell? ⟨w.heap.size, 2, none⟩ = some (.int .i64 (rb : Nat)) := HXX.out.cell (j := 2) rfl
                have c3 : wr.cell? ⟨w.heap.size, 3, none⟩ = some (.int .i64 (rc : Nat)) := HXX.out.cell (j := 3) rfl
                have c4 : wr.cell? ⟨w.heap.size, 4, none⟩ = some (.int .i64 0) := HXX.out.cell (j := 4) rfl
                have c5 : wr.cell? ⟨w.heap.size, 5, none⟩ = some (.int .u64 0) := HXX.out.cell (j := 5) rfl
                have z0 := HXX.out.fz 0
                have z1 := HXX.out.fz 1
                have z2 := HXX.out.fz 2
                have z3 := HXX.out.fz 3
                have z4 := HXX.out.fz 4
                have z5 := HXX.out.fz 5
                rcases reg_none hr with hl2 | ⟨a, d, hd, ha | ⟨ha, hd2⟩ | ⟨ha, hd2, hd3⟩⟩
                · have n2 : (((strOf (ws.getD (1 + i) [])).size : Int) != 2) = true := by rw [bne_iff_ne, str_len]; omega
                  clear hr hl2 HTX HJ
                  generalize strOf (ws.getD (1 + i) []) = Sd at *
                  go_wp2
                  generalize hW9 : World.setCell _ _ _ = W9
                  exact ret_ins rfl rfl rfl (hW9 ▸ ins_store HXX.out) rfl ⟨ro_fail HNO.out _ _ _ _ _ _, hW9 ▸ ins_below HB8.out (Nat.le_refl _)⟩
                · skip
                  rw [hd] at l1
                  have n0 := fun W => (word_two a d W).1
                  have n3 : (((a.toNat : Nat) : Int) != 114) = true := by rw [bne_iff_ne]; intro e; exact ha (UInt8.toNat_inj.1 (by show a.toNat = 114; omega))
                  clear ha
                  have n1 := fun W => (word_two a d W).2
                  have n2 : ((strOf [a, d]).size : Int) = 2 := rfl
                  clear hr hd HTX HJ
                  generalize strOf [a, d] = Sd at *
                  generalize a.toNat = an at *
                  generalize d.toNat = dn at *
                  go_wp2
                  generalize hW9 : World.setCell _ _ _ = W9
                  exact ret_ins rfl rfl rfl (hW9 ▸ ins_store HXX.out) rfl ⟨ro_fail HNO.out _ _ _ _ _ _, hW9 ▸ ins_below HB8.out (Nat.le_refl _)⟩
                · subst ha
                  rw [hd] at l1
                  have n0 : ∀ W, (Instr.index 9 (.string (strOf [114, d])) (.int .i64 0)).run Tryz.prog W = .ok (.int .u8 114) W := fun W => (word_two 114 d W).1
                  have n1 := fun W => (word_two 114 d W).2
                  have n2 : ((strOf [114, d]).size : Int) = 2 := rfl
                  have n4 : (((d.toNat : Nat) : Int) < 48) := by omega
                  clear hd2
                  clear hr hd HTX HJ
                  generalize strOf [114, d] = Sd at *
                  generalize d.toNat = dn at *
                  go_wp2
                  generalize hW9 : World.setCell _ _ _ = W9
                  exact ret_ins rfl rfl rfl (hW9 ▸ ins_store HXX.out) rfl ⟨ro_fail HNO.out _ _ _ _ _ _, hW9 ▸ ins_below HB8.out (Nat.le_refl _)⟩
                · subst ha
                  rw [hd] at l1
                  have n0 : ∀ W, (Instr.index 9 (.string (strOf [114, d])) (.int .i64 0)).run Tryz.prog W = .ok (.int .u8 114) W := fun W => (word_two 114 d W).1
                  have n1 := fun W => (word_two 114 d W).2
                  have n2 : ((strOf [114, d]).size : Int) = 2 := rfl
                  have n4 : ¬ (((d.toNat : Nat) : Int) < 48) := by omega
                  have n5 : ((56 : Int) ≤ ((d.toNat : Nat) : Int)) := by omega
                  clear hd2 hd3
                  clear hr hd HTX HJ
                  generalize strOf [114, d] = Sd at *
                  generalize d.toNat = dn at *
                  go_wp2
                  generalize hW9 : World.setCell _ _ _ = W9
                  exact ret_ins rfl rfl rfl (hW9 ▸ ins_store HXX.out) rfl ⟨ro_fail HNO.out _ _ _ _ _ _, hW9 ▸ ins_below HB8.out (Nat.le_refl _)⟩
            · obtain rfl : i = r := by omega
              have i3 : ¬ (i : Int) < i := by omega
              have HRA := Lib.hid (read_all (s := s) (o := g) (r := i) (by rw [HWS.out]; exact HHH.out) HER.out (by rw [HWS.out]; exact HJ.out))
              have HFX := Lib.hid (HF6.out.turns HTX.out (by simpa using HNG.out))
              have HTT := Lib.hid (HT6.out.trans HTX.out)
              have f2 : wr.cell? ⟨Gf, 2, none⟩ = some (.bool false) := HFX.out.cell (j := 2) rfl
              have f3 : wr.cell? ⟨Gf, 3, none⟩ = some (.bool true) := HFX.out.cell (j := 3) rfl
              rw [HWS.out] at HRA
              clear HJ HP6 HF6 HW6 HT6 HTX hi hlt2
              have l2 : wr.cell? ⟨WB, i + 1, none⟩ = some (.string (strOf (ws.getD (1 + i) []))) := by have := HWC.out _ _ HWX.out (i + 1) (by omega); rw [Nat.add_comm 1 i]; exact this
              have i7 : (0 : Int) ≤ (i : Int) + 1 := by omega
              have i8 : (i : Int) + 1 < wn := by omega
              have hAll := HA.out _ (HTB.out _ HTT.out)
              have kc := parse_any (l := ws.getD (1 + i) []) (HLN.out _) wr hAll.tabs hAll.rng
              have HQ : Hid (RInv s g (g + 1) ⟨(g : Nat), (regX ws i 0 : Nat), (regX ws i 1 : Nat), (regX ws i 2 : Nat), 0, (fparse (ws.getD (1 + i) [])).1⟩ ((fparse (ws.getD (1 + i) [])).2 == 0)) := Lib.hid (rinv_hit (by rw [HWS.out]; exact HHH.out) (by
                  rw [HRA.out]; unfold readTail; rw [if_neg (by rw [HNN.out]; decide), if_pos HKK.out]
                  by_cases hz : (fparse (ws.getD (1 + i) [])).2 = 0
                  · rw [if_pos hz, hz]; rfl
                  · rw [if_neg hz, beq_eq_false_iff_ne.2 hz]; rfl) (fun y hy => by
                  rw [HRA.out] at hy; unfold readTail at hy; rw [if_neg (by rw [HNN.out]; decide), if_pos HKK.out] at hy
                  by_cases hz : (fparse (ws.getD (1 + i) [])).2 = 0
                  · rw [if_pos hz] at hy; injection hy
                  · rw [if_neg hz] at hy; cases hy))
              generalize (fparse (ws.getD (1 + i) [])).1 = kv at *
              generalize (fparse (ws.getD (1 + i) [])).2 = code at *
              have KC := Lib.hid kc
              have HEND := HQ
              clear kc hAll HQ
              generalize strOf (ws.getD (1 + i) []) = Sn at *
              clear hlt r3 hw2 hrw b2 hmm hge hle i0 i1 HRA HLN HWC
              go_wp2_with (go_at_call 171; refine KC.out.mono ?_; rintro _ w7 ⟨rfl, hb7⟩; have HX7 := Lib.hid (HXX.out.keep hb7); have HT7 := Lib.hid (HTT.out.trans (Turns.of_below hb7)); have c5 : w7.cell? ⟨w.heap.size, 5, none⟩ = some (.int .u64 0) := HX7.out.cell (j := 5) rfl; have z5 := HX7.out.fz 5; clear hb7)
              exact ⟨⟨g + 1, _, _, _, _, _, _, _, HLT.out.1, by first | exact up_val HGW.out | rfl, rfl, HX7.out.set 5 _, HT7.out.set (p := ⟨w.heap.size, 5, none⟩) (.inl (by simp)) _, HEND.out⟩, by first | exact up_end HLT.out.2 HGW.out | (have hh := HLT.out; simp [intOf]; omega)⟩
      · rw [hN] at q2
        rw [hK] at q3
        have HNN := Lib.hid hN
        have HKK := Lib.hid hK
        have hmm : opMany g = r + 2 := by rw [hom, hN, hK]; simp; omega
        clear hN hK hom HNK
        rcases hway with ⟨hway, hmiss⟩ | ⟨⟨b0, b1, b2⟩, hh, hoo⟩
        · have HMI := Lib.hid (rinv_miss HIN.out (by rw [HWS.out]; exact hmiss))
          clear hmiss HIN HER
          rcases hway with b0 | ⟨b0, b1⟩ | ⟨b0, b1, b2⟩
          · clear HNE
            have HP := HP0
            generalize strOf (opText g) = Wd at *
            generalize strOf (ws.getD 0 []) = W0 at *
            go_upto_region 8 with fail
            have HX3 := Lib.hid (HXR.out.alloc (.cells #[.string Wd, .int .i64 (r : Nat), .bool true, .bool false] 104))
            have HT3 := Lib.hid (HTR.out.alloc (.cells #[.string Wd, .int .i64 (r : Nat), .bool true, .bool false] 104))
            have HF3 := Lib.hid (Cells.new wr 104 #[.string Wd, .int .i64 (r : Nat), .bool true, .bool false])
            have HW3 := Lib.hid (HWR.out.alloc (.cells #[.string Wd, .int .i64 (r : Nat), .bool true, .bool false] 104))
            generalize wr.alloc (.cells #[.string Wd, .int .i64 (r : Nat), .bool true, .bool false] 104) = w3 at *
            generalize wr.heap.size = Gf at *
            clear q0 q1 q2 q3 p0 HXR HTR HWR HFR
            clear wr
            have p3 := HP.out w3 HW3.out
            have f0 : w3.cell? ⟨Gf, 0, none⟩ = some (.string Wd) := HF3.out.cell (j := 0) rfl
            go_quiet (fail)
            go_wp2
            exact ⟨⟨g + 1, xo, xa, xb, xc, xn, xk, ok, HLT.out.1, by first | exact up_val HGW.out | rfl, rfl, HX3.out.drewN _, HT3.out.drewN _, HMI.out⟩, by first | exact up_end HLT.out.2 HGW.out | (have hh := HLT.out; simp [intOf]; omega)⟩
          · have hne := HNE.out b1
            clear b1 HNE
            have HP := HP0
            generalize strOf (opText g) = Wd at *
            generalize strOf (ws.getD 0 []) = W0 at *
            go_upto_region 8 with fail
            have HX3 := Lib.hid (HXR.out.alloc (.cells #[.string Wd, .int .i64 (r : Nat), .bool true, .bool false] 104))
            have HT3 := Lib.hid (HTR.out.alloc (.cells #[.string Wd, .int .i64 (r : Nat), .bool true, .bool false] 104))
            have HF3 := Lib.hid (Cells.new wr 104 #[.string Wd, .int .i64 (r : Nat), .bool true, .bool false])
            have HW3 := Lib.hid (HWR.out.alloc (.cells #[.string Wd, .int .i64 (r : Nat), .bool true, .bool false] 104))
            generalize wr.alloc (.cells #[.string Wd, .int .i64 (r : Nat), .bool true, .bool false] 104) = w3 at *
            generalize wr.heap.size = Gf at *
            clear q0 q1 q2 q3 p0 HXR HTR HWR HFR
            clear wr
            have p3 := HP.out w3 HW3.out
            have f0 : w3.cell? ⟨Gf, 0, none⟩ = some (.string Wd) := HF3.out.cell (j := 0) rfl
            go_quiet (fail)
            go_wp2
            exact ⟨⟨g + 1, xo, xa, xb, xc, xn, xk, ok, HLT.out.1, by first | exact up_val HGW.out | rfl, rfl, HX3.out.drewN _, HT3.out.drewN _, HMI.out⟩, by first | exact up_end HLT.out.2 HGW.out | (have hh := HLT.out; simp [intOf]; omega)⟩
          · rw [b1] at q0
            have hl : ((wn : Int) != (r : Int) + 1 + 1) = true := by rw [bne_iff_ne]; omega
            clear b1 b2 HNE
            have HP := HP0
            generalize strOf (ws.getD 0 []) = W0 at *
            obtain ⟨Wd, hWd⟩ : ∃ Wd, W0 = Wd := ⟨_, rfl⟩
            subst hWd
            go_upto_region 8 with fail
            have HX3 := Lib.hid (HXR.out.alloc (.cells #[.string W0, .int .i64 (r : Nat), .bool true, .bool false] 104))
            have HT3 := Lib.hid (HTR.out.alloc (.cells #[.string W0, .int .i64 (r : Nat), .bool true, .bool false] 104))
            have HF3 := Lib.hid (Cells.new wr 104 #[.string W0, .int .i64 (r : Nat), .bool true, .bool false])
            have HW3 := Lib.hid (HWR.out.alloc (.cells #[.string W0, .int .i64 (r : Nat), .bool true, .bool false] 104))
            generalize wr.alloc (.cells #[.string W0, .int .i64 (r : Nat), .bool true, .bool false] 104) = w3 at *
            generalize wr.heap.size = Gf at *
            clear q0 q1 q2 q3 p0 HXR HTR HWR HFR
            clear wr
            have p3 := HP.out w3 HW3.out
            have f0 : w3.cell? ⟨Gf, 0, none⟩ = some (.string W0) := HF3.out.cell (j := 0) rfl
            go_quiet (fail)
            go_wp2
            exact ⟨⟨g + 1, xo, xa, xb, xc, xn, xk, ok, HLT.out.1, by first | exact up_val HGW.out | rfl, rfl, HX3.out.drewN _, HT3.out.drewN _, HMI.out⟩, by first | exact up_end HLT.out.2 HGW.out | (have hh := HLT.out; simp [intOf]; omega)⟩
        · replace hoo := hoo.symm
          subst hoo
          obtain ⟨hx0, hok0⟩ := HIN.out.1 (.inr (Nat.le_refl _))
          injection hx0 with e1 e2 e3 e4 e5 e6
          subst e1 e2 e3 e4 e5 e6 hok0
          have HHH := Lib.hid hh
          have hl : ((wn : Int) != (r : Int) + 1 + 1) = false := by rw [bne_eq_false_iff_eq]; omega
          have hrw : r + 1 ≤ wn := by omega
          rw [b1] at q0
          clear hh b1 HNE HIN
          have HP := HP0
          generalize strOf (ws.getD 0 []) = W0 at *
          go_upto_region 8 with fail
          have HX3 := Lib.hid (HXR.out.alloc (.cells #[.string W0, .int .i64 (r : Nat), .bool true, .bool false] 104))
          have HT3 := Lib.hid (HTR.out.alloc (.cells #[.string W0, .int .i64 (r : Nat), .bool true, .bool false] 104))
          have HF3 := Lib.hid (Cells.new wr 104 #[.string W0, .int .i64 (r : Nat), .bool true, .bool false])
          have HW3 := Lib.hid (HWR.out.alloc (.cells #[.string W0, .int .i64 (r : Nat), .bool true, .bool false] 104))
          generalize wr.alloc (.cells #[.string W0, .int .i64 (r : Nat), .bool true, .bool false] 104) = w3 at *
          generalize wr.heap.size = Gf at *
          clear q0 q1 q2 q3 p0 HXR HTR HWR HFR
          clear wr
          have p3 := HP.out w3 HW3.out
          have f0 : w3.cell? ⟨Gf, 0, none⟩ = some (.string W0) := HF3.out.cell (j := 0) rfl
          go_quiet (fail)
          generalize hw4 : World.drewN w3 _ = w4
          have HX4 := Lib.hid (show Cells w4 w.heap.size 102 #[.int .i64 0, .int .i64 0, .int .i64 0, .int .i64 0, .int .i64 0, .int .u64 0] from hw4 ▸ HX3.out.drewN _)
          have HT4 := Lib.hid (show Turns [w.heap.size] w2 w4 from hw4 ▸ HT3.out.drewN _)
          have HF4 := Lib.hid (show Cells w4 Gf 104 #[.string W0, .int .i64 (r : Nat), .bool true, .bool false] from hw4 ▸ HF3.out.drewN _)
          have HW4 := Lib.hid (show Cells w4 WB 9 wcs from hw4 ▸ HW3.out.drewN _)
          have HNG := Lib.hid (show Gf ≠ w.heap.size from fun e => by
            have h1 := HF4.out
            have h2 := HX4.out
            rw [e] at h1
            unfold Cells at h1 h2
            rw [h1] at h2
            injection h2 with h2
            injection h2 with h2 h3
            exact absurd h3 (by decide))
          clear hw4 HX3 HT3 HF3 HW3 p3 f0 hl
          clear w3
          have c0 : w4.cell? ⟨w.heap.size, 0, none⟩ = some (.int .i64 0) := HX4.out.cell (j := 0) rfl
          have z0 := HX4.out.fz 0
          go_upto_region 10 with fail
          have HX5 := Lib.hid (HX4.out.set 0 (.int .i64 (g : Nat)))
          have HT5 := Lib.hid (HT4.out.set (p := ⟨w.heap.size, 0, none⟩) (.inl (by simp)) (.int .i64 (g : Nat)))
          have HF5 := Lib.hid (HF4.out.far (a := ⟨w.heap.size, 0, none⟩) HNG.out (.int .i64 (g : Nat)))
          have HW5 := Lib.hid (HW4.out.far (a := ⟨w.heap.size, 0, none⟩) HNW.out (.int .i64 (g : Nat)))
          clear HX4 HT4 HF4 HW4 c0 z0
          generalize w4.setCell ⟨w.heap.size, 0, none⟩ (.int .i64 (g : Nat)) = w5 at *
          clear w4
          have f1 : w5.cell? ⟨Gf, 1, none⟩ = some (.int .i64 (r : Nat)) := HF5.out.cell (j := 1) rfl
          have f1a : ∀ Z, (w5.alloc Z).cell? ⟨Gf, 1, none⟩ = some (.int .i64 (r : Nat)) := fun Z => (HF5.out.alloc Z).cell (j := 1) rfl
          have i5 : (0 : Int) ≤ r := by omega
          have i6 : (r : Int) ≤ 3 := by omega
          go_wp2
          have HP6 := Lib.hid (Cells.new w5 89 #[.pointer (some ⟨w.heap.size, 1, none⟩), .pointer (some ⟨w.heap.size, 2, none⟩), .pointer (some ⟨w.heap.size, 3, none⟩)])
          have HX6 := Lib.hid (HX5.out.alloc (.cells #[.pointer (some ⟨w.heap.size, 1, none⟩), .pointer (some ⟨w.heap.size, 2, none⟩), .pointer (some ⟨w.heap.size, 3, none⟩)] 89))
          have HT6 := Lib.hid (HT5.out.alloc (.cells #[.pointer (some ⟨w.heap.size, 1, none⟩), .pointer (some ⟨w.heap.size, 2, none⟩), .pointer (some ⟨w.heap.size, 3, none⟩)] 89))
          have HF6 := Lib.hid (HF5.out.alloc (.cells #[.pointer (some ⟨w.heap.size, 1, none⟩), .pointer (some ⟨w.heap.size, 2, none⟩), .pointer (some ⟨w.heap.size, 3, none⟩)] 89))
          have HW6 := Lib.hid (HW5.out.alloc (.cells #[.pointer (some ⟨w.heap.size, 1, none⟩), .pointer (some ⟨w.heap.size, 2, none⟩), .pointer (some ⟨w.heap.size, 3, none⟩)] 89))
          have HNP := Lib.hid (show w5.heap.size ≠ w.heap.size from Nat.ne_of_gt HX5.out.lt)
          generalize w5.alloc (.cells #[.pointer (some ⟨w.heap.size, 1, none⟩), .pointer (some ⟨w.heap.size, 2, none⟩), .pointer (some ⟨w.heap.size, 3, none⟩)] 89) = w6 at *
          generalize w5.heap.size = PB at *
          clear HX5 HT5 HF5 HW5 f1 f1a i5 i6
          clear w5
          go_loopw [59] (fun iv wx => ∃ i : Nat, i ≤ r ∧ iv = .int .i64 (i : Int) ∧ (∀ j : Nat, j < i → (regOf (ws.getD (1 + j) [])).isSome = true) ∧ Cells wx w.heap.size 102 #[.int .i64 (g : Nat), .int .i64 (regX ws i 0 : Nat), .int .i64 (regX ws i 1 : Nat), .int .i64 (regX ws i 2 : Nat), .int .i64 0, .int .u64 0] ∧ Turns [w.heap.size] w6 wx) (fun iv _ => r - (intOf iv).toNat)
          case atStart => exact ⟨0, Nat.zero_le _, rfl, fun j hj => absurd hj (by omega), by rw [regs_zero]; exact HX6.out, Turns.refl _ _⟩
          case round =>
            obtain ⟨i, hi, rfl, hj, hX, hT⟩ := hrel
            have HXX := Lib.hid hX
            have HTX := Lib.hid hT
            have HJ := Lib.hid hj
            clear hX hT hj HX6
            have HWX := Lib.hid (HW6.out.turns HTX.out (by simpa using HNW.out))
            by_cases hlt2 : i < r
            · have h3i : i < 3 := by omega
              have l0 : wr.cell? ⟨PB, i, none⟩ = some (.pointer (some ⟨w.heap.size, 1 + i, none⟩)) := ptr_at (HP6.out.turns HTX.out (by simpa using HNP.out)) i h3i
              have l1 : wr.cell? ⟨WB, i + 1, none⟩ = some (.string (strOf (ws.getD (1 + i) []))) := by have := HWC.out _ _ HWX.out (i + 1) (by omega); rw [Nat.add_comm 1 i]; exact this
              have i2 : (0 : Int) ≤ i := by omega
              have i3 : (i : Int) < r := by omega
              have i7 : (0 : Int) ≤ (i : Int) + 1 := by omega
              have i8 : (i : Int) + 1 < wn := by omega
              have hwi : wrap64 ((i : Int) + 1) = (i : Int) + 1 := by unfold wrap64; omega
              have HLI := Lib.hid (show i < r ∧ i < 3 from ⟨hlt2, h3i⟩)
              clear hlt2 h3i hi hlt r3 hw1 hw2 hrw b2 hmm hge hle i0 i1
              cases hr : regOf (ws.getD (1 + i) []) with
              | some u =>
                obtain ⟨d, hd, d1, d2, hu⟩ := reg_word hr
                have HU := Lib.hid (show regU ws i = u from by unfold regU; rw [hr]; rfl)
                have HJ2 : Hid (∀ j : Nat, j < i + 1 → (regOf (ws.getD (1 + j) [])).isSome = true) := Lib.hid fun j hj => by
                  rcases Nat.lt_or_ge j i with h | h
                  · exact HJ.out j h
                  · obtain rfl : j = i := by omega
                    rw [hr]; rfl
                rw [hd] at l1
                have n0 : ∀ W, (Instr.index 9 (.string (strOf [114, d])) (.int .i64 0)).run Tryz.prog W = .ok (.int .u8 114) W := fun W => (word_two 114 d W).1
                have n1 := fun W => (word_two 114 d W).2
                have n2 : ((strOf [114, d]).size : Int) = 2 := rfl
                have n4 : ¬ (((d.toNat : Nat) : Int) < 48) := by omega
                have n5 : ¬ ((56 : Int) ≤ ((d.toNat : Nat) : Int)) := by omega
                have n6 : IntKind.u8.wrap (((d.toNat : Nat) : Int) - 48) = ((u : Nat) : Int) := by rw [IntKind.wrap_u8]; omega
                have n7 : wrap64 ((u : Nat) : Int) = ((u : Nat) : Int) := by unfold wrap64; omega
                have c1 := cell_some HXX.out i HLI.out.2
                obtain ⟨v1, c1⟩ := c1
                have z1 := HXX.out.fz (1 + i)
                have HX8 := Lib.hid (show Cells (wr.setCell ⟨w.heap.size, 1 + i, none⟩ (.int .i64 (u : Nat))) w.heap.size 102 #[.int .i64 (g : Nat), .int .i64 (regX ws (i + 1) 0 : Nat), .int .i64 (regX ws (i + 1) 1 : Nat), .int .i64 (regX ws (i + 1) 2 : Nat), .int .i64 0, .int .u64 0] from by have := HXX.out.set (1 + i) (.int .i64 (u : Nat)); rw [regs_set ws i HLI.out.2 _ u HU.out] at this; exact this)
                have HT8 := Lib.hid (HTX.out.set (p := ⟨w.heap.size, 1 + i, none⟩) (.inl (by simp)) (.int .i64 (u : Nat)))
                clear hr hd d1 d2 hu HXX HTX HJ
                generalize strOf [114, d] = Sd at *
                generalize d.toNat = dn at *
                go_wp2
                exact ⟨⟨i + 1, HLI.out.1, up_val hwi, HJ2.out, HX8.out, HT8.out⟩, up_end HLI.out.1 hwi⟩
              | none =>
                have HNO := Lib.hid (read_reg (s := s) (o := g) (r := r) (i := i) (by rw [HWS.out]; exact HHH.out) HER.out (by have := regs_lt (g : Int); have := HER.out; omega) HLI.out.1 (by rw [HWS.out]; exact hr))
                have HB8 := Lib.hid (HTB.out _ (HT6.out.trans HTX.out))
                generalize regX ws i 0 = ra at *
                generalize regX ws i 1 = rb at *
                generalize regX ws i 2 = rc at *
                have c0 : wr.cell? ⟨w.heap.size, 0, none⟩ = some (.int .i64 (g : Nat)) := HXX.out.cell (j := 0) rfl
                have c1 : wr.cell? ⟨w.heap.size, 1, none⟩ = some (.int .i64 (ra : Nat)) := HXX.out.cell (j := 1) rfl
                have c2 : wr.cell? ⟨w.heap.size, 2, none⟩ = some (.int .i64 (rb : Nat)) := HXX.out.cell (j := 2) rfl
                have c3 : wr.cell? ⟨w.heap.size, 3, none⟩ = some (.int .i64 (rc : Nat)) := HXX.out.cell (j := 3) rfl
                have c4 : wr.cell? ⟨w.heap.size, 4, none⟩ = some (.int .i64 0) := HXX.out.cell (j := 4) rfl
                have c5 : wr.cell? ⟨w.heap.size, 5, none⟩ = some (.int .u64 0) := HXX.out.cell (j := 5) rfl
                have z0 := HXX.out.fz 0
                have z1 := HXX.out.fz 1
                have z2 := HXX.out.fz 2
                have z3 := HXX.out.fz 3
                have z4 := HXX.out.fz 4
                have z5 := HXX.out.fz 5
                rcases reg_none hr with hl2 | ⟨a, d, hd, ha | ⟨ha, hd2⟩ | ⟨ha, hd2, hd3⟩⟩
                · have n2 : (((strOf (ws.getD (1 + i) [])).size : Int) != 2) = true := by rw [bne_iff_ne, str_len]; omega
                  clear hr hl2 HTX HJ
                  generalize strOf (ws.getD (1 + i) []) = Sd at *
                  go_wp2
                  generalize hW9 : World.setCell _ _ _ = W9
                  exact ret_ins rfl rfl rfl (hW9 ▸ ins_store HXX.out) rfl ⟨ro_fail HNO.out _ _ _ _ _ _, hW9 ▸ ins_below HB8.out (Nat.le_refl _)⟩
                · skip
                  rw [hd] at l1
                  have n0 := fun W => (word_two a d W).1
                  have n3 : (((a.toNat : Nat) : Int) != 114) = true := by rw [bne_iff_ne]; intro e; exact ha (UInt8.toNat_inj.1 (by show a.toNat = 114; omega))
                  clear ha
                  have n1 := fun W => (word_two a d W).2
                  have n2 : ((strOf [a, d]).size : Int) = 2 := rfl
                  clear hr hd HTX HJ
                  generalize strOf [a, d] = Sd at *
                  generalize a.toNat = an at *
                  generalize d.toNat = dn at *
                  go_wp2
                  generalize hW9 : World.setCell _ _ _ = W9
                  exact ret_ins rfl rfl rfl (hW9 ▸ ins_store HXX.out) rfl ⟨ro_fail HNO.out _ _ _ _ _ _, hW9 ▸ ins_below HB8.out (Nat.le_refl _)⟩
                · subst ha
                  rw [hd] at l1
                  have n0 : ∀ W, (Instr.index 9 (.string (strOf [114, d])) (.int .i64 0)).run Tryz.prog W = .ok (.int .u8 114) W := fun W => (word_two 114 d W).1
                  have n1 := fun W => (word_two 114 d W).2
                  have n2 : ((strOf [114, d]).size : Int) = 2 := rfl
                  have n4 : (((d.toNat : Nat) : Int) < 48) := by omega
                  clear hd2
                  clear hr hd HTX HJ
                  generalize strOf [114, d] = Sd at *
                  generalize d.toNat = dn at *
                  go_wp2
                  generalize hW9 : World.setCell _ _ _ = W9
                  exact ret_ins rfl rfl rfl (hW9 ▸ ins_store HXX.out) rfl ⟨ro_fail HNO.out _ _ _ _ _ _, hW9 ▸ ins_below HB8.out (Nat.le_refl _)⟩
                · subst ha
                  rw [hd] at l1
                  have n0 : ∀ W, (Instr.index 9 (.string (strOf [114, d])) (.int .i64 0)).run Tryz.prog W = .ok (.int .u8 114) W := fun W => (word_two 114 d W).1
                  have n1 := fun W => (word_two 114 d W).2
                  have n2 : ((strOf [114, d]).size : Int) = 2 := rfl
                  have n4 : ¬ (((d.toNat : Nat) : Int) < 48) := by omega
                  have n5 : ((56 : Int) ≤ ((d.toNat : Nat) : Int)) := by omega
                  clear hd2 hd3
                  clear hr hd HTX HJ
                  generalize strOf [114, d] = Sd at *
                  generalize d.toNat = dn at *
                  go_wp2
                  generalize hW9 : World.setCell _ _ _ = W9
                  exact ret_ins rfl rfl rfl (hW9 ▸ ins_store HXX.out) rfl ⟨ro_fail HNO.out _ _ _ _ _ _, hW9 ▸ ins_below HB8.out (Nat.le_refl _)⟩
            · obtain rfl : i = r := by omega
              have i3 : ¬ (i : Int) < i := by omega
              have HRA := Lib.hid (read_all (s := s) (o := g) (r := i) (by rw [HWS.out]; exact HHH.out) HER.out (by rw [HWS.out]; exact HJ.out))
              have HFX := Lib.hid (HF6.out.turns HTX.out (by simpa using HNG.out))
              have HTT := Lib.hid (HT6.out.trans HTX.out)
              have f2 : wr.cell? ⟨Gf, 2, none⟩ = some (.bool true) := HFX.out.cell (j := 2) rfl
              have f3 : wr.cell? ⟨Gf, 3, none⟩ = some (.bool false) := HFX.out.cell (j := 3) rfl
              rw [HWS.out] at HRA
              clear HJ HP6 HF6 HW6 HT6 HTX hi hlt2
              have l2 : wr.cell? ⟨WB, i + 1, none⟩ = some (.string (strOf (ws.getD (1 + i) []))) := by have := HWC.out _ _ HWX.out (i + 1) (by omega); rw [Nat.add_comm 1 i]; exact this
              have i7 : (0 : Int) ≤ (i : Int) + 1 := by omega
              have i8 : (i : Int) + 1 < wn := by omega
              have hAll := HA.out _ (HTB.out _ HTT.out)
              have kc := pnum_any (ws.getD (1 + i) []) (HLN.out _) wr hAll
              have HQ : Hid (∀ nn : Int, (∀ m : Nat, numOf (ws.getD (1 + i) []) = some m → nn = (m : Int)) → RInv s g (g + 1) ⟨(g : Nat), (regX ws i 0 : Nat), (regX ws i 1 : Nat), (regX ws i 2 : Nat), nn, 0⟩ (numOf (ws.getD (1 + i) [])).isSome) := Lib.hid fun nn hm => rinv_hit (by rw [HWS.out]; exact HHH.out) (by
                  rw [HRA.out]; unfold readTail; rw [if_pos HNN.out]
                  cases numOf (ws.getD (1 + i) []) <;> rfl) (fun y hy => by
                  rw [HRA.out] at hy; unfold readTail at hy; rw [if_pos HNN.out] at hy
                  cases hq : numOf (ws.getD (1 + i) []) with
                  | none => rw [hq] at hy; cases hy
                  | some m => rw [hq] at hy; injection hy with hy; rw [← hy, hm m hq])
              obtain ⟨PN, hPN⟩ : ∃ PN : Int → Prop, (fun n : Int => ∀ m : Nat, numOf (ws.getD (1 + i) []) = some m → n = (m : Int)) = PN := ⟨_, rfl⟩
              replace kc : Calls Tryz.prog 129 #[.string (strOf (ws.getD (1 + i) []))] wr fun e w' => (∃ n : Int, e = .returned (.tuple #[.int .i64 n, .bool (numOf (ws.getD (1 + i) [])).isSome]) ∧ PN n) ∧ Below wr.heap.size wr w' := hPN ▸ kc
              replace HQ : Hid (∀ nn : Int, PN nn → RInv s g (g + 1) ⟨(g : Nat), (regX ws i 0 : Nat), (regX ws i 1 : Nat), (regX ws i 2 : Nat), nn, 0⟩ (numOf (ws.getD (1 + i) [])).isSome) := Lib.hid (hPN ▸ HQ.out)
              generalize (numOf (ws.getD (1 + i) [])).isSome = okn at *
              have KC := Lib.hid kc
              clear hPN kc hAll
              generalize strOf (ws.getD (1 + i) []) = Sn at *
              clear hlt r3 hw2 hrw b2 hmm hge hle i0 i1 HRA HLN HWC
              go_wp2_with (go_at_call 129; refine KC.out.mono ?_; rintro _ w7 ⟨⟨nn, rfl, hnn⟩, hb7⟩; have HX7 := Lib.hid (HXX.out.keep hb7); have HT7 := Lib.hid (HTT.out.trans (Turns.of_below hb7)); have HF7 := Lib.hid (HFX.out.keep hb7); have c4 : w7.cell? ⟨w.heap.size, 4, none⟩ = some (.int .i64 0) := HX7.out.cell (j := 4) rfl; have z4 := HX7.out.fz 4; have f3s : ∀ v, (w7.setCell ⟨w.heap.size, 4, none⟩ v).cell? ⟨Gf, 3, none⟩ = some (.bool false) := fun v => (HF7.out.far (a := ⟨w.heap.size, 4, none⟩) HNG.out v).cell (j := 3) rfl; have HEND := Lib.hid (HQ.out nn hnn); clear hnn hb7)
              exact ⟨⟨g + 1, _, _, _, _, _, _, _, HLT.out.1, by first | exact up_val HGW.out | rfl, rfl, HX7.out.set 4 _, HT7.out.set (p := ⟨w.heap.size, 4, none⟩) (.inl (by simp)) _, HEND.out⟩, by first | exact up_end HLT.out.2 HGW.out | (have hh := HLT.out; simp [intOf]; omega)⟩
      · exact absurd ⟨hN, hK⟩ HNK.out
    · obtain rfl : g = 25 := by omega
      have i1 : ¬ ((25 : Nat) : Int) < 25 := by omega
      have HEN := Lib.hid (rinv_end (by rw [HWS.out]; exact HOP.out) (by rw [HWS.out]; exact H25.out) HIN.out)
      have HB8 := Lib.hid (HTB.out _ HTR.out)
      have c0 : wr.cell? ⟨w.heap.size, 0, none⟩ = some (.int .i64 xo) := HXR.out.cell (j := 0) rfl
      have c1 : wr.cell? ⟨w.heap.size, 1, none⟩ = some (.int .i64 xa) := HXR.out.cell (j := 1) rfl
      have c2 : wr.cell? ⟨w.heap.size, 2, none⟩ = some (.int .i64 xb) := HXR.out.cell (j := 2) rfl
      have c3 : wr.cell? ⟨w.heap.size, 3, none⟩ = some (.int .i64 xc) := HXR.out.cell (j := 3) rfl
      have c4 : wr.cell? ⟨w.heap.size, 4, none⟩ = some (.int .i64 xn) := HXR.out.cell (j := 4) rfl
      have c5 : wr.cell? ⟨w.heap.size, 5, none⟩ = some (.int .u64 (xk : Nat)) := HXR.out.cell (j := 5) rfl
      have z0 := HXR.out.fz 0
      have z1 := HXR.out.fz 1
      have z2 := HXR.out.fz 2
      have z3 := HXR.out.fz 3
      have z4 := HXR.out.fz 4
      have z5 := HXR.out.fz 5
      go_wp2
      generalize hW9 : World.setCell _ _ _ = W9
      exact ret_ins rfl rfl rfl (hW9 ▸ ins_store HXR.out) rfl ⟨HEN.out, hW9 ▸ ins_below HB8.out (Nat.le_refl _)⟩
end Go.Proofs.YtdkencepmdfacaaGreatDoor
