/- ProgCuts: no beginning of a program's bytes is a program's, none with more behind it, and no beginning of its text but by whole lines is a text: as a row and as a card. -/
import Derived.Test.YtiidkgdlngcpgaaGreatDoorPv
import Derived.Test.YtiidkgdlngcpgaaGreatDoorPvk
set_option maxRecDepth 100000
namespace Go.Proofs.YtiidkgdlngcpgaaGreatDoor.progCuts
open Go.ChangeMaps (open_string shut_string)
open Go.RowKit Go.WideShapes Go.ChangeShapes Go.ChangeAt Ieee

theorem cut_index {l : List UInt8} {j : Nat} (h : j < l.length) (i : Int) (hi : i = (j : Nat)) (w : World) : (Instr.index 9 (.string (strOf l)) (.int .i64 i)).run Tryz.prog w = .ok (.int .u8 (((l[j]'h).toNat : Nat) : Int)) w := by
  subst hi
  have hsz : (strOf l).size = l.length := by rw [ba_size]
  rw [run_index_string w 9 (strOf l) .i64 (j : Int) Tryz.underlying9, dif_pos ⟨by omega, by rw [hsz]; omega⟩]
  congr 3
theorem str_eq (l : List UInt8) : str l = strOf l := rfl
theorem sum_str (l : List UInt8) (s : ByteArray) : strOf l ++ s = strOf (l ++ s.data.toList) := by
  rw [strOf_app]
/-- how many lines a program's text has -/
theorem text_lines {fn : Nat} {l : List Ins} (h : (progCheck fn l).1 = 0) (hk : ∀ x ∈ l, x.k < 2 * signB) : (progText fn l).count 10 = 1 + l.length := by
  have hf := prog_full h hk
  have h1 := spl_lines l fun x hx => (hf x hx).1
  have h2 := spl_count 10 (linesT l)
  rw [h1] at h2
  have h3 : List.count (10 : UInt8) fuelW = 0 := by decide
  have h4 : List.count (10 : UInt8) (Lib.decDigits fn) = 0 := List.count_eq_zero.2 (dec_no10 fn)
  unfold progText
  rw [List.count_append, List.count_append, List.count_cons, h3, h4]
  simp at h2 ⊢
  omega
theorem text_last (fn : Nat) (l : List Ins) : ∃ m, progText fn l = m ++ [10] := by
  unfold progText
  rcases List.eq_nil_or_concat l with rfl | ⟨l', x, rfl⟩
  · exact ⟨fuelW ++ Lib.decDigits fn, by simp [linesT]⟩
  · refine ⟨fuelW ++ Lib.decDigits fn ++ 10 :: (linesT l' ++ x.line), ?_⟩
    unfold linesT
    simp [List.flatMap_append, List.append_assoc]
theorem take_last {l : List UInt8} {c : Nat} (hc : c < l.length) (h : c = 0 ∨ ∃ h0 : c - 1 < l.length, l[c - 1] ≠ 10) : (l.take c).getLast? ≠ some 10 := by
  rcases h with rfl | ⟨h0, h⟩
  · simp
  · intro e
    by_cases c0 : c = 0
    · subst c0; simp at e
    · rw [List.getLast?_eq_getElem?, List.length_take, Nat.min_eq_left (by omega), List.getElem?_take, if_pos (by omega), List.getElem?_eq_getElem h0] at e
      exact h (Option.some.inj e)
theorem count_more {l : List UInt8} {i : Nat} (h : i < l.length) : (l.take (i + 1)).count 10 = (l.take i).count 10 + if l[i] = 10 then 1 else 0 := by
  rw [List.take_succ_eq_append_getElem h, List.count_append, List.count_singleton]
  simp
theorem byte_ten (x : UInt8) : (((x.toNat : Nat) : Int) == 10) = decide (x = 10) := by
  by_cases h : x = 10
  · subst h; rfl
  · rw [decide_eq_false h, beq_eq_false_iff_ne]
    intro e
    exact h (UInt8.toNat_inj.1 (by have : x.toNat = 10 := by omega
                                   rw [this]; rfl))
set_option maxHeartbeats 4000000 in
set_option maxRecDepth 100000 in
theorem walk_bad {fuel : Int} {A : Option Addr} {l : List Ins} {cap : Nat} (cut : Int) (more : ByteArray) (hm : more.size < 1048576) (w : World) (hC : CodeIn w w.heap.size A l) (hA : AllAt w) (hne : (progCheck fuel l).1 ≠ 0) :
    Calls Tryz.prog 10 #[.agg #[.int .i64 fuel, .slice A l.length cap], .int .i64 cut, .string more] w fun e w' => e = .returned (.bool true) ∧ Below w.heap.size w w' := by
  have HX := Lib.hid (Cells.new w 24 #[.int .i64 fuel, .slice A l.length cap])
  have HB := Lib.hid ((Below.refl w.heap.size w).alloc (Nat.le_refl _) (.cells #[.int .i64 fuel, .slice A l.length cap] 24))
  have x0 := HX.out.cell (j := 0) rfl
  have x1 := HX.out.cell (j := 1) rfl
  have HKA : Hid (∀ W, Below w.heap.size w W → Calls Tryz.prog 14 #[] W fun e w' => e = .returned (.bool true) ∧ Below W.heap.size W w') := Lib.hid fun W hW => awake_any W (hA.keep hW)
  have HK2 : Hid (∀ W, Below w.heap.size w W → Calls Tryz.prog 15 #[.agg #[.int .i64 fuel, .slice A l.length cap]] W fun e w' => e = .returned (.tuple #[.string (if (progCheck fuel l).1 = 0 then strOf (progText fuel.toNat l) else ⟨#[]⟩), .int .i64 (progCheck fuel l).1]) ∧ Below W.heap.size W w') := Lib.hid fun W hW => print_any fuel A l cap W ((hC.keep hW).more hW.size) (code_k hC) (hA.keep hW).tabs
  have HK3 : Hid (∀ W, Below w.heap.size w W → Calls Tryz.prog 21 #[.agg #[.int .i64 fuel, .slice A l.length cap]] W fun e w' => e = .returned (.tuple #[.string (if (progCheck fuel l).1 = 0 then str (progB fuel.toNat l) else ⟨#[]⟩), .int .i64 (progCheck fuel l).1]) ∧ Below W.heap.size W w') := Lib.hid fun W hW => pack_any fuel A l cap W ((hC.keep hW).more hW.size) (code_k hC)
  rw [if_neg hne] at HK2 HK3
  have t1 : ((progCheck fuel l).1 != 0) = true := by rw [bne_iff_ne]; exact hne
  clear hC hA hne hm
  generalize (progCheck fuel l).1 = er at *
  generalize l.length = len at *
  have t3 : (er != er) = false := by rw [bne_eq_false_iff_eq]
  go_enter Tryz.func10, Tryz.ntmps10
  go_wp2_with (first | (go_at_call 15; refine (HK2.out _ HB.out).mono ?_; rintro _ wn ⟨rfl, hb⟩; have HX := Lib.hid (HX.out.keep hb); have x0 := HX.out.cell (j := 0) rfl; have x1 := HX.out.cell (j := 1) rfl; have HB := Lib.hid (grow_to HB.out hb); clear hb) | (go_at_call 21; refine (HK3.out _ HB.out).mono ?_; rintro _ wn ⟨rfl, hb⟩; have HX := Lib.hid (HX.out.keep hb); have x0 := HX.out.cell (j := 0) rfl; have x1 := HX.out.cell (j := 1) rfl; have HB := Lib.hid (grow_to HB.out hb); clear hb) | (go_at_call 14; refine (HKA.out _ HB.out).mono ?_; rintro _ wn ⟨rfl, hb⟩; have HX := Lib.hid (HX.out.keep hb); have x0 := HX.out.cell (j := 0) rfl; have x1 := HX.out.cell (j := 1) rfl; have HB := Lib.hid (grow_to HB.out hb); clear hb))
  go_ret
  exact ⟨by first | rfl | simp, HB.out⟩

theorem unpack_tells (L : List UInt8) (hl : L.length < 4294967296) (W : World) {E : Int} (hE : (unpackP L).1 = E) : Calls Tryz.prog 23 #[.string (strOf L)] W fun e w' => ((∃ f Aq nq cq, e = .returned (.tuple #[.agg #[.int .i64 (f : Nat), .slice Aq nq cq], .int .i64 E])) ∧ True) ∧ Below W.heap.size W w' := by
  refine Calls.mono (show Calls Tryz.prog 23 #[.string (strOf L)] W (UnpackOut W L) from unpack_any L hl W) ?_
  rintro e w' ⟨⟨Aq, cq, h1, h2, h3⟩, hb⟩
  exact ⟨⟨⟨_, Aq, _, cq, by rw [← hE]; exact h1⟩, trivial⟩, hb⟩
theorem parse_tells (L : List UInt8) (hl : L.length < 1073741824) (W : World) (hA : AllAt W) {E : Int} (hE : (parseT L).1 = E) : Calls Tryz.prog 17 #[.string (strOf L)] W fun e w' => ((∃ f Aq nq cq k, e = .returned (.tuple #[.agg #[.int .i64 (f : Nat), .slice Aq nq cq], .int .i64 E, .int .i64 (k : Nat)])) ∧ True) ∧ Below W.heap.size W w' := by
  refine Calls.mono (pparse_any L hl W hA) ?_
  rintro e w' ⟨⟨Aq, cq, h1, h2, h3⟩, hb⟩
  exact ⟨⟨⟨_, Aq, _, cq, _, by rw [← hE]; exact h1⟩, trivial⟩, hb⟩

structure CutFacts (w : World) (cut : Int) (more SB SL : ByteArray) (tl : List UInt8) (len : Nat) (EM : Int) : Prop where
  km : ∀ W, Below w.heap.size w W → Calls Tryz.prog 23 #[.string (SB ++ more)] W fun e w' => ((∃ f Aq nq cq, e = .returned (.tuple #[.agg #[.int .i64 (f : Nat), .slice Aq nq cq], .int .i64 EM])) ∧ True) ∧ Below W.heap.size W w'
  way : ((more.toList == []) = true ∧ more.toList.isEmpty = true) ∨ (((more.toList == []) = false ∧ more.toList.isEmpty = false) ∧ (1024 : Int) < (SB.size : Int) + (more.size : Int)) ∨ (((more.toList == []) = false ∧ more.toList.isEmpty = false) ∧ ¬ (1024 : Int) < (SB.size : Int) + (more.size : Int) ∧ (EM == 54) = true)
  cut1 : ¬ (0 : Int) ≤ cut ∨ ((0 : Int) ≤ cut ∧ ¬ cut < (SB.size : Int)) ∨ (((0 : Int) ≤ cut ∧ cut < (SB.size : Int)) ∧ ∃ SX, (∀ W, (Instr.slice 9 (.string SB) none (some (.int .i64 cut)) none).run Tryz.prog W = .ok (.string SX) W) ∧ ∀ W, Below w.heap.size w W → Calls Tryz.prog 23 #[.string SX] W fun e w' => ((∃ f Aq nq cq, e = .returned (.tuple #[.agg #[.int .i64 (f : Nat), .slice Aq nq cq], .int .i64 54])) ∧ True) ∧ Below W.heap.size W w')
  cut2 : ¬ (0 : Int) ≤ cut ∨ ((0 : Int) ≤ cut ∧ ¬ cut < (SL.size : Int)) ∨ (((0 : Int) ≤ cut ∧ cut < (SL.size : Int)) ∧ ((cut == 0) = false ∧ ∃ b : Int, (∀ W, (Instr.index 9 (.string SL) (.int .i64 (cut - 1))).run Tryz.prog W = .ok (.int .u8 b) W) ∧ (b != 10) = false)) ∨ (((0 : Int) ≤ cut ∧ cut < (SL.size : Int)) ∧ ((cut == 0) = true ∨ (cut == 0) = false ∧ ∃ b : Int, (∀ W, (Instr.index 9 (.string SL) (.int .i64 (cut - 1))).run Tryz.prog W = .ok (.int .u8 b) W) ∧ (b != 10) = true) ∧ ∃ SX, (∀ W, (Instr.slice 9 (.string SL) none (some (.int .i64 cut)) none).run Tryz.prog W = .ok (.string SX) W) ∧ ∀ W, Below w.heap.size w W → Calls Tryz.prog 17 #[.string SX] W fun e w' => ((∃ f Aq nq cq k, e = .returned (.tuple #[.agg #[.int .i64 (f : Nat), .slice Aq nq cq], .int .i64 55, .int .i64 (k : Nat)])) ∧ True) ∧ Below W.heap.size W w')
  ix : ∀ j, j < SL.size → ∃ b : Int, (∀ W, (Instr.index 9 (.string SL) (.int .i64 ((j : Nat) : Int))).run Tryz.prog W = .ok (.int .u8 b) W) ∧ ((b == 10) = true ∧ (tl.take (j + 1)).count 10 = (tl.take j).count 10 + 1 ∨ (b == 10) = false ∧ (tl.take (j + 1)).count 10 = (tl.take j).count 10)
  last : ∀ W, (Instr.index 9 (.string SL) (.int .i64 ((SL.size : Int) - 1))).run Tryz.prog W = .ok (.int .u8 10) W
  cn : ∀ j, (tl.take j).count 10 ≤ j
  all : (tl.take SL.size).count 10 = 1 + len

set_option maxHeartbeats 8000000 in
set_option maxRecDepth 100000 in
theorem walk_good {fuel : Int} {A : Option Addr} {l : List Ins} {cap : Nat} (cut : Int) (more : ByteArray) (hm : more.size < 1048576) (w : World) (hC : CodeIn w w.heap.size A l) (hA : AllAt w) (h0 : (progCheck fuel l).1 = 0) :
    Calls Tryz.prog 10 #[.agg #[.int .i64 fuel, .slice A l.length cap], .int .i64 cut, .string more] w fun e w' => e = .returned (.bool true) ∧ Below w.heap.size w w' := by
  have HX := Lib.hid (Cells.new w 24 #[.int .i64 fuel, .slice A l.length cap])
  have HB := Lib.hid ((Below.refl w.heap.size w).alloc (Nat.le_refl _) (.cells #[.int .i64 fuel, .slice A l.length cap] 24))
  have x0 := HX.out.cell (j := 0) rfl
  have x1 := HX.out.cell (j := 1) rfl
  have HKA : Hid (∀ W, Below w.heap.size w W → Calls Tryz.prog 14 #[] W fun e w' => e = .returned (.bool true) ∧ Below W.heap.size W w') := Lib.hid fun W hW => awake_any W (hA.keep hW)
  have HK2 : Hid (∀ W, Below w.heap.size w W → Calls Tryz.prog 15 #[.agg #[.int .i64 fuel, .slice A l.length cap]] W fun e w' => e = .returned (.tuple #[.string (if (progCheck fuel l).1 = 0 then strOf (progText fuel.toNat l) else ⟨#[]⟩), .int .i64 (progCheck fuel l).1]) ∧ Below W.heap.size W w') := Lib.hid fun W hW => print_any fuel A l cap W ((hC.keep hW).more hW.size) (code_k hC) (hA.keep hW).tabs
  have HK3 : Hid (∀ W, Below w.heap.size w W → Calls Tryz.prog 21 #[.agg #[.int .i64 fuel, .slice A l.length cap]] W fun e w' => e = .returned (.tuple #[.string (if (progCheck fuel l).1 = 0 then str (progB fuel.toNat l) else ⟨#[]⟩), .int .i64 (progCheck fuel l).1]) ∧ Below W.heap.size W w') := Lib.hid fun W hW => pack_any fuel A l cap W ((hC.keep hW).more hW.size) (code_k hC)
  obtain ⟨hf, hl1, hl2⟩ := prog_range h0
  obtain ⟨fn, rfl⟩ := Int.eq_ofNat_of_zero_le (show 0 ≤ fuel by omega)
  have hk := code_k hC
  rw [if_pos h0, h0, show ((fn : Int).toNat) = fn from Int.toNat_natCast fn] at HK2 HK3
  have hsb : (progB fn l).length ≤ 1024 := progB_le h0 hk
  have hst : (progText fn l).length ≤ 4000 := by
    have hh := headT_le (fuel := fn) (by omega) hl2 (fun x hx => ⟨(prog_full h0 hk x hx).1, by have := (prog_full h0 hk x hx).2; omega⟩) l.length
    rw [headT_all _ (Nat.le_refl _)] at hh
    exact hh
  have hml : more.data.toList.length = more.size := by rw [Array.length_toList]; rfl
  -- what stands at the end
  have HM : ∃ E : Int, (unpackP (progB fn l ++ more.data.toList)).1 = E ∧ (((more.toList == []) = true ∧ more.toList.isEmpty = true) ∨ (((more.toList == []) = false ∧ more.toList.isEmpty = false) ∧ (1024 : Int) < ((progB fn l).length : Int) + (more.size : Int)) ∨ (((more.toList == []) = false ∧ more.toList.isEmpty = false) ∧ ¬ (1024 : Int) < ((progB fn l).length : Int) + (more.size : Int) ∧ E = 54)) := by
    refine ⟨_, rfl, ?_⟩
    have hto : more.toList = more.data.toList := by rw [← str_list more]; exact str_toList _
    rw [hto]
    by_cases hm0 : more.data.toList = []
    · left; rw [hm0]; exact ⟨rfl, rfl⟩
    · right
      have e1 : (more.data.toList == []) = false := by rw [beq_eq_false_iff_ne]; exact hm0
      have e2 : more.data.toList.isEmpty = false := by simpa using hm0
      by_cases hbig : 1024 < (progB fn l).length + more.size
      · left; exact ⟨⟨e1, e2⟩, by omega⟩
      · right
        refine ⟨⟨e1, e2⟩, by omega, ?_⟩
        rw [unpack_more h0 hk, if_neg (by rw [List.length_append, hml]; exact hbig), if_neg hm0]
  obtain ⟨EM, hEM, hway⟩ := HM
  have HKM : Hid (∀ W, Below w.heap.size w W → Calls Tryz.prog 23 #[.string (str (progB fn l) ++ more)] W fun e w' => ((∃ f Aq nq cq, e = .returned (.tuple #[.agg #[.int .i64 (f : Nat), .slice Aq nq cq], .int .i64 EM])) ∧ True) ∧ Below W.heap.size W w') := Lib.hid fun W _ => by
    rw [str_eq, sum_str]
    exact unpack_tells _ (by rw [List.length_append, hml]; omega) W hEM
  have HWAY : Hid (((more.toList == []) = true ∧ more.toList.isEmpty = true) ∨ (((more.toList == []) = false ∧ more.toList.isEmpty = false) ∧ (1024 : Int) < ((str (progB fn l)).size : Int) + (more.size : Int)) ∨ (((more.toList == []) = false ∧ more.toList.isEmpty = false) ∧ ¬ (1024 : Int) < ((str (progB fn l)).size : Int) + (more.size : Int) ∧ (EM == 54) = true)) := Lib.hid (by
    rw [str_size]
    rcases hway with h | h | ⟨h, h2, h3⟩
    · exact .inl h
    · exact .inr (.inl h)
    · exact .inr (.inr ⟨h, h2, by rw [h3]; rfl⟩))
  clear hway
  -- the bytes cut
  have HCUT1 : Hid (¬ (0 : Int) ≤ cut ∨ ((0 : Int) ≤ cut ∧ ¬ cut < ((str (progB fn l)).size : Int)) ∨ (((0 : Int) ≤ cut ∧ cut < ((str (progB fn l)).size : Int)) ∧ ∃ SX, (∀ W, (Instr.slice 9 (.string (str (progB fn l))) none (some (.int .i64 cut)) none).run Tryz.prog W = .ok (.string SX) W) ∧ ∀ W, Below w.heap.size w W → Calls Tryz.prog 23 #[.string SX] W fun e w' => ((∃ f Aq nq cq, e = .returned (.tuple #[.agg #[.int .i64 (f : Nat), .slice Aq nq cq], .int .i64 54])) ∧ True) ∧ Below W.heap.size W w')) := Lib.hid (by
    rw [str_size]
    by_cases c0 : (0 : Int) ≤ cut
    · right
      by_cases c1 : cut < ((progB fn l).length : Int)
      · right
        obtain ⟨c, rfl⟩ := Int.eq_ofNat_of_zero_le c0
        refine ⟨⟨c0, c1⟩, strOf ((progB fn l).take c), fun W => ?_, fun W _ => ?_⟩
        · rw [str_eq]
          rw [run_slice_string_h W 9 _ Tryz.underlying9 .i64 ((c : Nat) : Int) (by omega) (by first | (rw [strOf_size]; omega) | (rw [str_size]; omega)), Int.toNat_natCast, ext_take]
        · refine unpack_tells _ (by rw [List.length_take]; omega) W (unpack_cut h0 hk (by omega))
      · left; exact ⟨c0, c1⟩
    · left; exact c0)
  -- the text cut
  have HCUT2 : Hid (¬ (0 : Int) ≤ cut ∨ ((0 : Int) ≤ cut ∧ ¬ cut < ((strOf (progText fn l)).size : Int)) ∨ (((0 : Int) ≤ cut ∧ cut < ((strOf (progText fn l)).size : Int)) ∧ ((cut == 0) = false ∧ ∃ b : Int, (∀ W, (Instr.index 9 (.string (strOf (progText fn l))) (.int .i64 (cut - 1))).run Tryz.prog W = .ok (.int .u8 b) W) ∧ (b != 10) = false)) ∨ (((0 : Int) ≤ cut ∧ cut < ((strOf (progText fn l)).size : Int)) ∧ ((cut == 0) = true ∨ (cut == 0) = false ∧ ∃ b : Int, (∀ W, (Instr.index 9 (.string (strOf (progText fn l))) (.int .i64 (cut - 1))).run Tryz.prog W = .ok (.int .u8 b) W) ∧ (b != 10) = true) ∧ ∃ SX, (∀ W, (Instr.slice 9 (.string (strOf (progText fn l))) none (some (.int .i64 cut)) none).run Tryz.prog W = .ok (.string SX) W) ∧ ∀ W, Below w.heap.size w W → Calls Tryz.prog 17 #[.string SX] W fun e w' => ((∃ f Aq nq cq k, e = .returned (.tuple #[.agg #[.int .i64 (f : Nat), .slice Aq nq cq], .int .i64 55, .int .i64 (k : Nat)])) ∧ True) ∧ Below W.heap.size W w')) := Lib.hid (by
    rw [strOf_size]
    by_cases c0 : (0 : Int) ≤ cut
    · right
      by_cases c1 : cut < ((progText fn l).length : Int)
      · right
        obtain ⟨c, rfl⟩ := Int.eq_ofNat_of_zero_le c0
        have part : ((progText fn l).take c).getLast? ≠ some 10 → ∃ SX, (∀ W, (Instr.slice 9 (.string (strOf (progText fn l))) none (some (.int .i64 (c : Nat))) none).run Tryz.prog W = .ok (.string SX) W) ∧ ∀ W, Below w.heap.size w W → Calls Tryz.prog 17 #[.string SX] W fun e w' => ((∃ f Aq nq cq k, e = .returned (.tuple #[.agg #[.int .i64 (f : Nat), .slice Aq nq cq], .int .i64 55, .int .i64 (k : Nat)])) ∧ True) ∧ Below W.heap.size W w' := fun hlast => by
          refine ⟨strOf ((progText fn l).take c), fun W => ?_, fun W hW => ?_⟩
          · rw [run_slice_string_h W 9 _ Tryz.underlying9 .i64 ((c : Nat) : Int) (by omega) (by first | (rw [strOf_size]; omega) | (rw [str_size]; omega)), Int.toNat_natCast, ext_take]
          · exact parse_tells _ (by rw [List.length_take]; omega) W (hA.keep hW) (parse_cut hlast)
        by_cases cz : c = 0
        · right
          exact ⟨⟨c0, c1⟩, .inl (by subst cz; rfl), part (take_last (by omega) (.inl cz))⟩
        · have hlt : c - 1 < (progText fn l).length := by omega
          have b0 : (((c : Nat) : Int) == 0) = false := by rw [beq_eq_false_iff_ne]; omega
          have hix := fun W => cut_index hlt (((c : Nat) : Int) - 1) (by omega) W
          by_cases hb : (progText fn l)[c - 1] = 10
          · left
            exact ⟨⟨c0, c1⟩, b0, _, hix, by rw [hb]; rfl⟩
          · right
            refine ⟨⟨c0, c1⟩, .inr ⟨b0, _, hix, ?_⟩, part (take_last (by omega) (.inr ⟨hlt, hb⟩))⟩
            rw [bne, byte_ten, decide_eq_false hb]; rfl
      · left; exact ⟨c0, c1⟩
    · left; exact c0)
  -- the lines counted
  have HIX : Hid (∀ j, j < (strOf (progText fn l)).size → ∃ b : Int, (∀ W, (Instr.index 9 (.string (strOf (progText fn l))) (.int .i64 ((j : Nat) : Int))).run Tryz.prog W = .ok (.int .u8 b) W) ∧ ((b == 10) = true ∧ ((progText fn l).take (j + 1)).count 10 = ((progText fn l).take j).count 10 + 1 ∨ (b == 10) = false ∧ ((progText fn l).take (j + 1)).count 10 = ((progText fn l).take j).count 10)) := Lib.hid fun j hj => by
    rw [strOf_size] at hj
    refine ⟨_, fun W => cut_index hj _ rfl W, ?_⟩
    rw [byte_ten, count_more hj]
    by_cases hb : (progText fn l)[j] = 10
    · left; rw [hb]; exact ⟨rfl, rfl⟩
    · right; rw [decide_eq_false hb, if_neg hb]; exact ⟨rfl, rfl⟩
  have HLAST : Hid (∀ W, (Instr.index 9 (.string (strOf (progText fn l))) (.int .i64 (((strOf (progText fn l)).size : Int) - 1))).run Tryz.prog W = .ok (.int .u8 10) W) := Lib.hid fun W => by
    obtain ⟨m, hm2⟩ := text_last fn l
    rw [hm2]
    have hlt : m.length < (m ++ [(10 : UInt8)]).length := by simp
    rw [cut_index hlt _ (by rw [strOf_size]; simp) W]
    simp
  have HCN : Hid (∀ j, ((progText fn l).take j).count 10 ≤ j) := Lib.hid fun j => Nat.le_trans List.count_le_length (by rw [List.length_take]; omega)
  have HALL : Hid (((progText fn l).take (strOf (progText fn l)).size).count 10 = 1 + l.length) := Lib.hid (by rw [strOf_size, List.take_length]; exact text_lines h0 hk)
  have hz1 : (strOf (progText fn l)).size ≤ 4000 := by rw [strOf_size]; exact hst
  have hz3 : 0 < (strOf (progText fn l)).size := by rw [strOf_size]; obtain ⟨m, hm2⟩ := text_last fn l; rw [hm2]; simp
  have hz2 : (str (progB fn l)).size ≤ 1024 := by rw [str_size]; exact hsb
  have FX : CutFacts w cut more (str (progB fn l)) (strOf (progText fn l)) (progText fn l) l.length EM := ⟨HKM.out, HWAY.out, HCUT1.out, HCUT2.out, HIX.out, HLAST.out, HCN.out, HALL.out⟩
  clear HKM HWAY HCUT1 HCUT2 HIX HLAST HCN HALL
  clear hEM hml hst hsb hC hA h0 hk hf
  generalize strOf (progText fn l) = SL at *
  generalize progText fn l = tl at *
  generalize str (progB fn l) = SB at *
  have HMS := Lib.hid (show 0 < SL.size ∧ (0 : Int) < (SL.size : Int) ∧ (SL.size : Int) ≤ 4000 ∧ (SB.size : Int) ≤ 1024 ∧ (more.size : Int) ≤ 1048576 ∧ (l.length : Int) ≤ 64 from by omega)
  clear hm hz1 hz2 hz3 hl1 hl2
  generalize l.length = len at *
  go_enter Tryz.func10, Tryz.ntmps10
  go_wp2_with (first | (go_at_call 15; refine (HK2.out _ HB.out).mono ?_; rintro _ wn ⟨rfl, hb⟩; have HX := Lib.hid (HX.out.keep hb); have x0 := HX.out.cell (j := 0) rfl; have x1 := HX.out.cell (j := 1) rfl; have HB := Lib.hid (grow_to HB.out hb); clear hb) | (go_at_call 21; refine (HK3.out _ HB.out).mono ?_; rintro _ wn ⟨rfl, hb⟩; have HX := Lib.hid (HX.out.keep hb); have x0 := HX.out.cell (j := 0) rfl; have x1 := HX.out.cell (j := 1) rfl; have HB := Lib.hid (grow_to HB.out hb); clear hb) | (go_at_call 14; refine (HKA.out _ HB.out).mono ?_; rintro _ wn ⟨rfl, hb⟩; have HX := Lib.hid (HX.out.keep hb); have x0 := HX.out.cell (j := 0) rfl; have x1 := HX.out.cell (j := 1) rfl; have HB := Lib.hid (grow_to HB.out hb); clear hb))
  go_loopw [11, 12] (fun lv iv wr => ∃ i : Nat, i ≤ SL.size ∧ lv = .int .i64 (((tl.take i).count 10 : Nat) : Int) ∧ iv = .int .i64 (i : Int) ∧ Cells wr w.heap.size 24 #[.int .i64 (fn : Nat), .slice A len cap] ∧ Below w.heap.size w wr) (fun _ iv _ => SL.size - (intOf iv).toNat)
  case atStart => exact ⟨0, Nat.zero_le _, by first | rfl | simp, rfl, HX.out, HB.out⟩
  case round =>
    obtain ⟨i, hi, rfl, rfl, hX, hB⟩ := hrel
    have HXr := Lib.hid hX
    have HBr := Lib.hid hB
    clear hX hB HX HB x0 x1
    by_cases hlt : i < SL.size
    · obtain ⟨b, hix, hb⟩ := FX.ix i hlt
      have hcn := FX.cn i
      have hz := HMS.out.2.2.1
      have t0 : (i : Int) < (SL.size : Int) := by omega
      have t1 : (0 : Int) ≤ (i : Int) := by omega
      rcases hb with ⟨hb, hc⟩ | ⟨hb, hc⟩
      · have HC1 := Lib.hid hc
        clear hc
        generalize (tl.take i).count 10 = cn at *
        go_wp2
        refine ⟨⟨i + 1, hlt, by rw [HC1.out]; first | rfl | go_num, by first | rfl | go_num, HXr.out, HBr.out⟩, by clear HC1; simp [intOf]; omega⟩
      · have HC1 := Lib.hid hc
        clear hc
        generalize (tl.take i).count 10 = cn at *
        go_wp2
        refine ⟨⟨i + 1, hlt, by rw [HC1.out], by first | rfl | go_num, HXr.out, HBr.out⟩, by clear HC1; simp [intOf]; omega⟩
    · obtain rfl : i = SL.size := by omega
      rw [FX.all, show ((1 + len : Nat) : Int) = 1 + (len : Int) from by omega]
      have i1 : ¬ (SL.size : Int) < (SL.size : Int) := by omega
      have x1 := HXr.out.cell (j := 1) rfl
      have HB := Lib.hid HBr.out
      have e3 : (0 : Int) ≤ len := by omega
      have hlast := fun W => FX.last W
      obtain ⟨_, hz1, hz2, hz3, hz4, hz5⟩ := HMS.out
      clear HMS
      clear HBr hi hlt
      go_upto_region 15 with fail
      clear i1 x1 hlast HXr
      rcases FX.cut1 with q1 | ⟨q1, q2⟩ | ⟨⟨q1, q2⟩, HKU⟩
      · go_upto_region 19 with fail
        clear q1
        rcases FX.cut2 with q1 | ⟨q1, q2⟩ | ⟨⟨q1, q2⟩, q3, b, hb1, hb2⟩ | ⟨⟨q1, q2⟩, q3, HKT⟩
        · go_upto_region 23 with fail
          clear q1
          go_upto_region 24 with (go_at_call 23; refine (FX.km _ HB.out).mono ?_; rintro _ wm ⟨⟨⟨f, Aq, nq, cq, rfl⟩, _⟩, hb⟩; have HB := Lib.hid (grow_to HB.out hb); clear hb)
          have HAL := Lib.hid ((Below.refl wm.heap.size wm).alloc (Nat.le_refl _) (.cells #[.int .i64 (f : Nat), .slice Aq nq cq] 24))
          replace HB := Lib.hid (grow_to HB.out HAL.out)
          clear HAL
          generalize wm.alloc (.cells #[.int .i64 (f : Nat), .slice Aq nq cq] 24) = wm2 at *
          generalize wm.heap.size = wmB at *
          rcases FX.way with ⟨q1, q2⟩ | ⟨⟨q1, q2⟩, q3⟩ | ⟨⟨q1, q2⟩, q3, q4⟩
          all_goals go_wp2
          all_goals go_ret
          all_goals exact ⟨by first | rfl | simp, HB.out⟩
        · go_upto_region 23 with fail
          clear q1 q2
          go_upto_region 24 with (go_at_call 23; refine (FX.km _ HB.out).mono ?_; rintro _ wm ⟨⟨⟨f, Aq, nq, cq, rfl⟩, _⟩, hb⟩; have HB := Lib.hid (grow_to HB.out hb); clear hb)
          have HAL := Lib.hid ((Below.refl wm.heap.size wm).alloc (Nat.le_refl _) (.cells #[.int .i64 (f : Nat), .slice Aq nq cq] 24))
          replace HB := Lib.hid (grow_to HB.out HAL.out)
          clear HAL
          generalize wm.alloc (.cells #[.int .i64 (f : Nat), .slice Aq nq cq] 24) = wm2 at *
          generalize wm.heap.size = wmB at *
          rcases FX.way with ⟨q1, q2⟩ | ⟨⟨q1, q2⟩, q3⟩ | ⟨⟨q1, q2⟩, q3, q4⟩
          all_goals go_wp2
          all_goals go_ret
          all_goals exact ⟨by first | rfl | simp, HB.out⟩
        · go_upto_region 23 with fail
          clear q1 q2 q3 hb1 hb2
          go_upto_region 24 with (go_at_call 23; refine (FX.km _ HB.out).mono ?_; rintro _ wm ⟨⟨⟨f, Aq, nq, cq, rfl⟩, _⟩, hb⟩; have HB := Lib.hid (grow_to HB.out hb); clear hb)
          have HAL := Lib.hid ((Below.refl wm.heap.size wm).alloc (Nat.le_refl _) (.cells #[.int .i64 (f : Nat), .slice Aq nq cq] 24))
          replace HB := Lib.hid (grow_to HB.out HAL.out)
          clear HAL
          generalize wm.alloc (.cells #[.int .i64 (f : Nat), .slice Aq nq cq] 24) = wm2 at *
          generalize wm.heap.size = wmB at *
          rcases FX.way with ⟨q1, q2⟩ | ⟨⟨q1, q2⟩, q3⟩ | ⟨⟨q1, q2⟩, q3, q4⟩
          all_goals go_wp2
          all_goals go_ret
          all_goals exact ⟨by first | rfl | simp, HB.out⟩
        · rcases q3 with q3 | ⟨q3, b, hb1, hb2⟩
          · go_upto_region 20 with fail
            clear q3
            obtain ⟨SX, hsl, hkx⟩ := HKT
            have HKX := Lib.hid hkx
            clear hkx
            go_upto_region 21 with (go_at_call 17; refine (HKX.out _ HB.out).mono ?_; rintro _ wp ⟨⟨⟨f, Aq, nq, cq, kq, rfl⟩, _⟩, hb⟩; have HB := Lib.hid (grow_to HB.out hb); clear hb)
            have HAL := Lib.hid ((Below.refl wp.heap.size wp).alloc (Nat.le_refl _) (.cells #[.int .i64 (f : Nat), .slice Aq nq cq] 24))
            replace HB := Lib.hid (grow_to HB.out HAL.out)
            clear HAL
            generalize wp.alloc (.cells #[.int .i64 (f : Nat), .slice Aq nq cq] 24) = wp2 at *
            generalize wp.heap.size = wpB at *
            clear HKX hsl
            go_upto_region 23 with fail
            clear q1 q2
            go_upto_region 24 with (go_at_call 23; refine (FX.km _ HB.out).mono ?_; rintro _ wm ⟨⟨⟨f, Aq, nq, cq, rfl⟩, _⟩, hb⟩; have HB := Lib.hid (grow_to HB.out hb); clear hb)
            have HAL := Lib.hid ((Below.refl wm.heap.size wm).alloc (Nat.le_refl _) (.cells #[.int .i64 (f : Nat), .slice Aq nq cq] 24))
            replace HB := Lib.hid (grow_to HB.out HAL.out)
            clear HAL
            generalize wm.alloc (.cells #[.int .i64 (f : Nat), .slice Aq nq cq] 24) = wm2 at *
            generalize wm.heap.size = wmB at *
            rcases FX.way with ⟨q1, q2⟩ | ⟨⟨q1, q2⟩, q3⟩ | ⟨⟨q1, q2⟩, q3, q4⟩
            all_goals go_wp2
            all_goals go_ret
            all_goals exact ⟨by first | rfl | simp, HB.out⟩
          · go_upto_region 20 with fail
            clear q3 hb1 hb2
            obtain ⟨SX, hsl, hkx⟩ := HKT
            have HKX := Lib.hid hkx
            clear hkx
            go_upto_region 21 with (go_at_call 17; refine (HKX.out _ HB.out).mono ?_; rintro _ wp ⟨⟨⟨f, Aq, nq, cq, kq, rfl⟩, _⟩, hb⟩; have HB := Lib.hid (grow_to HB.out hb); clear hb)
            have HAL := Lib.hid ((Below.refl wp.heap.size wp).alloc (Nat.le_refl _) (.cells #[.int .i64 (f : Nat), .slice Aq nq cq] 24))
            replace HB := Lib.hid (grow_to HB.out HAL.out)
            clear HAL
            generalize wp.alloc (.cells #[.int .i64 (f : Nat), .slice Aq nq cq] 24) = wp2 at *
            generalize wp.heap.size = wpB at *
            clear HKX hsl
            go_upto_region 23 with fail
            clear q1 q2
            go_upto_region 24 with (go_at_call 23; refine (FX.km _ HB.out).mono ?_; rintro _ wm ⟨⟨⟨f, Aq, nq, cq, rfl⟩, _⟩, hb⟩; have HB := Lib.hid (grow_to HB.out hb); clear hb)
            have HAL := Lib.hid ((Below.refl wm.heap.size wm).alloc (Nat.le_refl _) (.cells #[.int .i64 (f : Nat), .slice Aq nq cq] 24))
            replace HB := Lib.hid (grow_to HB.out HAL.out)
            clear HAL
            generalize wm.alloc (.cells #[.int .i64 (f : Nat), .slice Aq nq cq] 24) = wm2 at *
            generalize wm.heap.size = wmB at *
            rcases FX.way with ⟨q1, q2⟩ | ⟨⟨q1, q2⟩, q3⟩ | ⟨⟨q1, q2⟩, q3, q4⟩
            all_goals go_wp2
            all_goals go_ret
            all_goals exact ⟨by first | rfl | simp, HB.out⟩
      · go_upto_region 19 with fail
        clear q1 q2
        rcases FX.cut2 with q1 | ⟨q1, q2⟩ | ⟨⟨q1, q2⟩, q3, b, hb1, hb2⟩ | ⟨⟨q1, q2⟩, q3, HKT⟩
        · go_upto_region 23 with fail
          clear q1
          go_upto_region 24 with (go_at_call 23; refine (FX.km _ HB.out).mono ?_; rintro _ wm ⟨⟨⟨f, Aq, nq, cq, rfl⟩, _⟩, hb⟩; have HB := Lib.hid (grow_to HB.out hb); clear hb)
          have HAL := Lib.hid ((Below.refl wm.heap.size wm).alloc (Nat.le_refl _) (.cells #[.int .i64 (f : Nat), .slice Aq nq cq] 24))
          replace HB := Lib.hid (grow_to HB.out HAL.out)
          clear HAL
          generalize wm.alloc (.cells #[.int .i64 (f : Nat), .slice Aq nq cq] 24) = wm2 at *
          generalize wm.heap.size = wmB at *
          rcases FX.way with ⟨q1, q2⟩ | ⟨⟨q1, q2⟩, q3⟩ | ⟨⟨q1, q2⟩, q3, q4⟩
          all_goals go_wp2
          all_goals go_ret
          all_goals exact ⟨by first | rfl | simp, HB.out⟩
        · go_upto_region 23 with fail
          clear q1 q2
          go_upto_region 24 with (go_at_call 23; refine (FX.km _ HB.out).mono ?_; rintro _ wm ⟨⟨⟨f, Aq, nq, cq, rfl⟩, _⟩, hb⟩; have HB := Lib.hid (grow_to HB.out hb); clear hb)
          have HAL := Lib.hid ((Below.refl wm.heap.size wm).alloc (Nat.le_refl _) (.cells #[.int .i64 (f : Nat), .slice Aq nq cq] 24))
          replace HB := Lib.hid (grow_to HB.out HAL.out)
          clear HAL
          generalize wm.alloc (.cells #[.int .i64 (f : Nat), .slice Aq nq cq] 24) = wm2 at *
          generalize wm.heap.size = wmB at *
          rcases FX.way with ⟨q1, q2⟩ | ⟨⟨q1, q2⟩, q3⟩ | ⟨⟨q1, q2⟩, q3, q4⟩
          all_goals go_wp2
          all_goals go_ret
          all_goals exact ⟨by first | rfl | simp, HB.out⟩
        · go_upto_region 23 with fail
          clear q1 q2 q3 hb1 hb2
          go_upto_region 24 with (go_at_call 23; refine (FX.km _ HB.out).mono ?_; rintro _ wm ⟨⟨⟨f, Aq, nq, cq, rfl⟩, _⟩, hb⟩; have HB := Lib.hid (grow_to HB.out hb); clear hb)
          have HAL := Lib.hid ((Below.refl wm.heap.size wm).alloc (Nat.le_refl _) (.cells #[.int .i64 (f : Nat), .slice Aq nq cq] 24))
          replace HB := Lib.hid (grow_to HB.out HAL.out)
          clear HAL
          generalize wm.alloc (.cells #[.int .i64 (f : Nat), .slice Aq nq cq] 24) = wm2 at *
          generalize wm.heap.size = wmB at *
          rcases FX.way with ⟨q1, q2⟩ | ⟨⟨q1, q2⟩, q3⟩ | ⟨⟨q1, q2⟩, q3, q4⟩
          all_goals go_wp2
          all_goals go_ret
          all_goals exact ⟨by first | rfl | simp, HB.out⟩
        · rcases q3 with q3 | ⟨q3, b, hb1, hb2⟩
          · go_upto_region 20 with fail
            clear q3
            obtain ⟨SX, hsl, hkx⟩ := HKT
            have HKX := Lib.hid hkx
            clear hkx
            go_upto_region 21 with (go_at_call 17; refine (HKX.out _ HB.out).mono ?_; rintro _ wp ⟨⟨⟨f, Aq, nq, cq, kq, rfl⟩, _⟩, hb⟩; have HB := Lib.hid (grow_to HB.out hb); clear hb)
            have HAL := Lib.hid ((Below.refl wp.heap.size wp).alloc (Nat.le_refl _) (.cells #[.int .i64 (f : Nat), .slice Aq nq cq] 24))
            replace HB := Lib.hid (grow_to HB.out HAL.out)
            clear HAL
            generalize wp.alloc (.cells #[.int .i64 (f : Nat), .slice Aq nq cq] 24) = wp2 at *
            generalize wp.heap.size = wpB at *
            clear HKX hsl
            go_upto_region 23 with fail
            clear q1 q2
            go_upto_region 24 with (go_at_call 23; refine (FX.km _ HB.out).mono ?_; rintro _ wm ⟨⟨⟨f, Aq, nq, cq, rfl⟩, _⟩, hb⟩; have HB := Lib.hid (grow_to HB.out hb); clear hb)
            have HAL := Lib.hid ((Below.refl wm.heap.size wm).alloc (Nat.le_refl _) (.cells #[.int .i64 (f : Nat), .slice Aq nq cq] 24))
            replace HB := Lib.hid (grow_to HB.out HAL.out)
            clear HAL
            generalize wm.alloc (.cells #[.int .i64 (f : Nat), .slice Aq nq cq] 24) = wm2 at *
            generalize wm.heap.size = wmB at *
            rcases FX.way with ⟨q1, q2⟩ | ⟨⟨q1, q2⟩, q3⟩ | ⟨⟨q1, q2⟩, q3, q4⟩
            all_goals go_wp2
            all_goals go_ret
            all_goals exact ⟨by first | rfl | simp, HB.out⟩
          · go_upto_region 20 with fail
            clear q3 hb1 hb2
            obtain ⟨SX, hsl, hkx⟩ := HKT
            have HKX := Lib.hid hkx
            clear hkx
            go_upto_region 21 with (go_at_call 17; refine (HKX.out _ HB.out).mono ?_; rintro _ wp ⟨⟨⟨f, Aq, nq, cq, kq, rfl⟩, _⟩, hb⟩; have HB := Lib.hid (grow_to HB.out hb); clear hb)
            have HAL := Lib.hid ((Below.refl wp.heap.size wp).alloc (Nat.le_refl _) (.cells #[.int .i64 (f : Nat), .slice Aq nq cq] 24))
            replace HB := Lib.hid (grow_to HB.out HAL.out)
            clear HAL
            generalize wp.alloc (.cells #[.int .i64 (f : Nat), .slice Aq nq cq] 24) = wp2 at *
            generalize wp.heap.size = wpB at *
            clear HKX hsl
            go_upto_region 23 with fail
            clear q1 q2
            go_upto_region 24 with (go_at_call 23; refine (FX.km _ HB.out).mono ?_; rintro _ wm ⟨⟨⟨f, Aq, nq, cq, rfl⟩, _⟩, hb⟩; have HB := Lib.hid (grow_to HB.out hb); clear hb)
            have HAL := Lib.hid ((Below.refl wm.heap.size wm).alloc (Nat.le_refl _) (.cells #[.int .i64 (f : Nat), .slice Aq nq cq] 24))
            replace HB := Lib.hid (grow_to HB.out HAL.out)
            clear HAL
            generalize wm.alloc (.cells #[.int .i64 (f : Nat), .slice Aq nq cq] 24) = wm2 at *
            generalize wm.heap.size = wmB at *
            rcases FX.way with ⟨q1, q2⟩ | ⟨⟨q1, q2⟩, q3⟩ | ⟨⟨q1, q2⟩, q3, q4⟩
            all_goals go_wp2
            all_goals go_ret
            all_goals exact ⟨by first | rfl | simp, HB.out⟩
      · go_upto_region 16 with fail
        obtain ⟨SX, hsl, hkx⟩ := HKU
        have HKX := Lib.hid hkx
        clear hkx
        go_upto_region 17 with (go_at_call 23; refine (HKX.out _ HB.out).mono ?_; rintro _ wo ⟨⟨⟨f, Aq, nq, cq, rfl⟩, _⟩, hb⟩; have HB := Lib.hid (grow_to HB.out hb); clear hb)
        have HAL := Lib.hid ((Below.refl wo.heap.size wo).alloc (Nat.le_refl _) (.cells #[.int .i64 (f : Nat), .slice Aq nq cq] 24))
        replace HB := Lib.hid (grow_to HB.out HAL.out)
        clear HAL
        generalize wo.alloc (.cells #[.int .i64 (f : Nat), .slice Aq nq cq] 24) = wo2 at *
        generalize wo.heap.size = woB at *
        clear HKX hsl
        go_upto_region 19 with fail
        clear q1 q2
        rcases FX.cut2 with q1 | ⟨q1, q2⟩ | ⟨⟨q1, q2⟩, q3, b, hb1, hb2⟩ | ⟨⟨q1, q2⟩, q3, HKT⟩
        · go_upto_region 23 with fail
          clear q1
          go_upto_region 24 with (go_at_call 23; refine (FX.km _ HB.out).mono ?_; rintro _ wm ⟨⟨⟨f, Aq, nq, cq, rfl⟩, _⟩, hb⟩; have HB := Lib.hid (grow_to HB.out hb); clear hb)
          have HAL := Lib.hid ((Below.refl wm.heap.size wm).alloc (Nat.le_refl _) (.cells #[.int .i64 (f : Nat), .slice Aq nq cq] 24))
          replace HB := Lib.hid (grow_to HB.out HAL.out)
          clear HAL
          generalize wm.alloc (.cells #[.int .i64 (f : Nat), .slice Aq nq cq] 24) = wm2 at *
          generalize wm.heap.size = wmB at *
          rcases FX.way with ⟨q1, q2⟩ | ⟨⟨q1, q2⟩, q3⟩ | ⟨⟨q1, q2⟩, q3, q4⟩
          all_goals go_wp2
          all_goals go_ret
          all_goals exact ⟨by first | rfl | simp, HB.out⟩
        · go_upto_region 23 with fail
          clear q1 q2
          go_upto_region 24 with (go_at_call 23; refine (FX.km _ HB.out).mono ?_; rintro _ wm ⟨⟨⟨f, Aq, nq, cq, rfl⟩, _⟩, hb⟩; have HB := Lib.hid (grow_to HB.out hb); clear hb)
          have HAL := Lib.hid ((Below.refl wm.heap.size wm).alloc (Nat.le_refl _) (.cells #[.int .i64 (f : Nat), .slice Aq nq cq] 24))
          replace HB := Lib.hid (grow_to HB.out HAL.out)
          clear HAL
          generalize wm.alloc (.cells #[.int .i64 (f : Nat), .slice Aq nq cq] 24) = wm2 at *
          generalize wm.heap.size = wmB at *
          rcases FX.way with ⟨q1, q2⟩ | ⟨⟨q1, q2⟩, q3⟩ | ⟨⟨q1, q2⟩, q3, q4⟩
          all_goals go_wp2
          all_goals go_ret
          all_goals exact ⟨by first | rfl | simp, HB.out⟩
        · go_upto_region 23 with fail
          clear q1 q2 q3 hb1 hb2
          go_upto_region 24 with (go_at_call 23; refine (FX.km _ HB.out).mono ?_; rintro _ wm ⟨⟨⟨f, Aq, nq, cq, rfl⟩, _⟩, hb⟩; have HB := Lib.hid (grow_to HB.out hb); clear hb)
          have HAL := Lib.hid ((Below.refl wm.heap.size wm).alloc (Nat.le_refl _) (.cells #[.int .i64 (f : Nat), .slice Aq nq cq] 24))
          replace HB := Lib.hid (grow_to HB.out HAL.out)
          clear HAL
          generalize wm.alloc (.cells #[.int .i64 (f : Nat), .slice Aq nq cq] 24) = wm2 at *
          generalize wm.heap.size = wmB at *
          rcases FX.way with ⟨q1, q2⟩ | ⟨⟨q1, q2⟩, q3⟩ | ⟨⟨q1, q2⟩, q3, q4⟩
          all_goals go_wp2
          all_goals go_ret
          all_goals exact ⟨by first | rfl | simp, HB.out⟩
        · rcases q3 with q3 | ⟨q3, b, hb1, hb2⟩
          · go_upto_region 20 with fail
            clear q3
            obtain ⟨SX, hsl, hkx⟩ := HKT
            have HKX := Lib.hid hkx
            clear hkx
            go_upto_region 21 with (go_at_call 17; refine (HKX.out _ HB.out).mono ?_; rintro _ wp ⟨⟨⟨f, Aq, nq, cq, kq, rfl⟩, _⟩, hb⟩; have HB := Lib.hid (grow_to HB.out hb); clear hb)
            have HAL := Lib.hid ((Below.refl wp.heap.size wp).alloc (Nat.le_refl _) (.cells #[.int .i64 (f : Nat), .slice Aq nq cq] 24))
            replace HB := Lib.hid (grow_to HB.out HAL.out)
            clear HAL
            generalize wp.alloc (.cells #[.int .i64 (f : Nat), .slice Aq nq cq] 24) = wp2 at *
            generalize wp.heap.size = wpB at *
            clear HKX hsl
            go_upto_region 23 with fail
            clear q1 q2
            go_upto_region 24 with (go_at_call 23; refine (FX.km _ HB.out).mono ?_; rintro _ wm ⟨⟨⟨f, Aq, nq, cq, rfl⟩, _⟩, hb⟩; have HB := Lib.hid (grow_to HB.out hb); clear hb)
            have HAL := Lib.hid ((Below.refl wm.heap.size wm).alloc (Nat.le_refl _) (.cells #[.int .i64 (f : Nat), .slice Aq nq cq] 24))
            replace HB := Lib.hid (grow_to HB.out HAL.out)
            clear HAL
            generalize wm.alloc (.cells #[.int .i64 (f : Nat), .slice Aq nq cq] 24) = wm2 at *
            generalize wm.heap.size = wmB at *
            rcases FX.way with ⟨q1, q2⟩ | ⟨⟨q1, q2⟩, q3⟩ | ⟨⟨q1, q2⟩, q3, q4⟩
            all_goals go_wp2
            all_goals go_ret
            all_goals exact ⟨by first | rfl | simp, HB.out⟩
          · go_upto_region 20 with fail
            clear q3 hb1 hb2
            obtain ⟨SX, hsl, hkx⟩ := HKT
            have HKX := Lib.hid hkx
            clear hkx
            go_upto_region 21 with (go_at_call 17; refine (HKX.out _ HB.out).mono ?_; rintro _ wp ⟨⟨⟨f, Aq, nq, cq, kq, rfl⟩, _⟩, hb⟩; have HB := Lib.hid (grow_to HB.out hb); clear hb)
            have HAL := Lib.hid ((Below.refl wp.heap.size wp).alloc (Nat.le_refl _) (.cells #[.int .i64 (f : Nat), .slice Aq nq cq] 24))
            replace HB := Lib.hid (grow_to HB.out HAL.out)
            clear HAL
            generalize wp.alloc (.cells #[.int .i64 (f : Nat), .slice Aq nq cq] 24) = wp2 at *
            generalize wp.heap.size = wpB at *
            clear HKX hsl
            go_upto_region 23 with fail
            clear q1 q2
            go_upto_region 24 with (go_at_call 23; refine (FX.km _ HB.out).mono ?_; rintro _ wm ⟨⟨⟨f, Aq, nq, cq, rfl⟩, _⟩, hb⟩; have HB := Lib.hid (grow_to HB.out hb); clear hb)
            have HAL := Lib.hid ((Below.refl wm.heap.size wm).alloc (Nat.le_refl _) (.cells #[.int .i64 (f : Nat), .slice Aq nq cq] 24))
            replace HB := Lib.hid (grow_to HB.out HAL.out)
            clear HAL
            generalize wm.alloc (.cells #[.int .i64 (f : Nat), .slice Aq nq cq] 24) = wm2 at *
            generalize wm.heap.size = wmB at *
            rcases FX.way with ⟨q1, q2⟩ | ⟨⟨q1, q2⟩, q3⟩ | ⟨⟨q1, q2⟩, q3, q4⟩
            all_goals go_wp2
            all_goals go_ret
            all_goals exact ⟨by first | rfl | simp, HB.out⟩
theorem walk {fuel : Int} {A : Option Addr} {l : List Ins} {cap : Nat} (cut : Int) (more : ByteArray) (hm : more.size < 1048576) (w : World) (hC : CodeIn w w.heap.size A l) (hA : AllAt w) :
    Calls Tryz.prog 10 #[.agg #[.int .i64 fuel, .slice A l.length cap], .int .i64 cut, .string more] w fun e w' => e = .returned (.bool true) ∧ Below w.heap.size w w' := by
  by_cases h : (progCheck fuel l).1 = 0
  · exact walk_good cut more hm w hC hA h
  · exact walk_bad cut more hm w hC hA h

-- LIFT
set_option maxRecDepth 100000 in
theorem contract (H : Type) (enc : TypeId × Value → H) (W : World) (base : Nat) (args : Array Value) (ds gs : List (DataW H)) (before : List MemPlace)
    (hval : ∀ (j : Nat) t v, Tryz.f10.params[j]? = some t → args[j]? = some v → Value.okWide Tryz.prog W .any base t v)
    (hW : DataW.Whole enc Tryz.prog Tryz.f10.params.toList Rows.progCutsSpec.vars false W args.toList ds gs before) (hk : Rows.uptoSmall H (ds ++ gs) = true) (hL : laidMetH Tryz.prog Rows.progCutsUptoRow.laid W) :
    Calls Tryz.prog 10 args W fun e W' => ∃ v, e = .returned v ∧ Rows.progCutsSpec.post enc Tryz.prog Tryz.f10 false true false false W args v W' := by
  have hAll := all_of (show laidMetH Tryz.prog laidOf W from hL)
  clear hL
  have hts : Tryz.f10.params.toList.all (fun t => Tryz.prog.readableRec t && decide (t < Tryz.prog.types.size)) = true := by kernel_rfl
  have hW' := hW
  obtain ⟨p, q, hA0, hV, rfl, hfz, hnd⟩ := hW
  have hA : DataW.TrodAll enc Tryz.prog W 0 (fun _ => true) true Tryz.f10.params.toList args.toList ds p := hA0
  rw [Tryz.params10] at hA hval
  obtain ⟨v0, vs0, d0, ds0, p0, q0, hargs, rfl, rfl, h0, r0⟩ := trodAll_cons hA
  obtain ⟨v1, vs1, d1, ds1, p1, q1, rfl, rfl, rfl, h1, r1⟩ := trodAll_cons r0
  obtain ⟨v2, vs2, d2, ds2, p2, q2, rfl, rfl, rfl, h2, r2⟩ := trodAll_cons r1
  obtain ⟨rfl, rfl, rfl⟩ := trodAll_nil r2
  obtain rfl : args = #[v0, v1, v2] := by cases args; simp_all
  obtain ⟨rfl, rfl⟩ := trodVars_none hV
  have hfn : Rows.progCutsSpec.fn H ([d0, d1, d2] ++ []) = { results := [.lit (.bool true)], args := [d0, d1, d2] } := rfl
  have hfin := fun W' (hbel : Below W.heap.size W W') => law_post (f := Tryz.f10) (s := Rows.progCutsSpec) 4 Tryz.laid hts rfl Tryz.underlying4 rfl hfn hW' hbel
  clear hA0 hts hfn
  simp only [List.append_nil] at hk
  obtain ⟨fu0, A0, l0, c0, rfl, hC0, hf0, hg0⟩ := open_prog (hval 0 24 v0 rfl rfl) h0
  obtain ⟨a1, rfl, rfl, rfl, w1⟩ := open_int Tryz.underlying3 (hval 1 3 v1 rfl rfl) h1
  have x1 : -9223372036854775808 ≤ a1 ∧ a1 ≤ 9223372036854775807 := by simpa [Lit.wf, IntKind.min, IntKind.max, IntKind.signed, IntKind.bits] using w1
  obtain ⟨s2, rfl, rfl, rfl, w2⟩ := open_string Tryz.underlying9 (hval 2 9 v2 rfl rfl) h2
  have b2 : s2.size < 1048576 := bulk_string (bulk_mem hk _ (by simp))
  exact (walk a1 s2 b2 W hC0 hAll).mono fun e W' ⟨he, hg⟩ => ⟨_, he, hfin W' hg⟩

theorem reads (os : Os) {H : Type} (enc : TypeId × Value → H) : ∃ places, DataW.whole enc Tryz.prog ((laidWorld os).forCall (fun _ _ => 0) ⟨#[], #[.agg #[.int .i64 0, .slice none 0 0], .int .i64 0, .string ⟨#[]⟩], []⟩).memory Tryz.f10.params.toList Rows.progCutsSpec.vars false #[.agg #[.int .i64 0, .slice none 0 0], .int .i64 0, .string ⟨#[]⟩].toList 8 = some ([.agg [.lit (.int .i64 0), .nil], .lit (.int .i64 0), .lit (.string [])], [], places) :=
  ⟨[], by kernel_rfl⟩
theorem laid_met (os : Os) : laidMet Tryz.prog Rows.progCutsUptoRow.laid ((laidWorld os).forCall (fun _ _ => 0) ⟨#[], #[.agg #[.int .i64 0, .slice none 0 0], .int .i64 0, .string ⟨#[]⟩], []⟩).memory := laid_here os #[.agg #[.int .i64 0, .slice none 0 0], .int .i64 0, .string ⟨#[]⟩]

set_option maxRecDepth 100000 in
theorem lifted (os : Os) (started : os.Started) (H : Type) (enc : TypeId × Value → H) (F : Stop.Interp) :
    ReturnsInHanded {} Tryz.checked os 10 .any ((Rows.OpenSpec.upto Rows.progCutsSpec).preRow enc Tryz.prog Tryz.f10 Rows.progCutsUptoRow.domain false Rows.progCutsUptoRow.laid) (((Rows.OpenSpec.upto Rows.progCutsSpec).at F).post enc Tryz.prog Tryz.f10 false true false false) := by
  obtain ⟨places, hx⟩ := reads os enc
  refine returnsInHanded_of_row (C := Tryz.checked) (s := Rows.OpenSpec.upto Rows.progCutsSpec) Tryz.own started (by kernel_rfl) Tryz.func10
    (witness_row_atRef (enc := enc) (C := Tryz.checked) false (laidWorld os) #[.agg #[.int .i64 0, .slice none 0 0], .int .i64 0, .string ⟨#[]⟩] rfl (by kernel_rfl) (by kernel_rfl) (by kernel_rfl)
      (OpenSpec.preRow_of_cond 8 hx (by kernel_rfl) (fun k hk => by cases hk; kernel_rfl) (by kernel_rfl) (laid_met os))) ?_
  intro W base args ds gs before hval hW _ hk _ hL _ _
  exact contract H enc W base args ds gs before hval hW (hk _ rfl) hL

theorem said : Rows.ProgCutsUptoSaid :=
  OpenClaim.holds_of_cond 10 Tryz.f10 rfl rfl rfl rfl rfl rfl rfl ⟨rfl, rfl, rfl, rfl, rfl⟩ rfl rfl rfl rfl rfl (by kernel_rfl) Tryz.func10 (by kernel_rfl)
    (of_decide_eq_true (by kernel_rfl)) (by unfold Func.isWrapper; first | (rw [if_pos (by decide +kernel)]; kernel_rfl) | (rw [if_neg (by decide +kernel)]; exact ⟨rfl, rfl⟩))
    (fun os started H enc _ F => by rw [OpenClaim.pre_eq_preRow]; exact lifted os started H enc F)

theorem plain (f : FuncId) (fn : Func) (hf : Tryz.pinned.checked.prog.funcNamed "gaffer/gafferlaw05.ProgCuts" = some f) (hfn : Tryz.pinned.checked.prog.funcs[f]? = some fn) :
    true = Tryz.pinned.checked.prog.looks [] ∧ ∀ (j : Nat) t, fn.params[j]? = some t → Tryz.pinned.checked.prog.wantsStandIn t = false := by
  obtain rfl : f = 10 := Option.some.inj ((show Tryz.prog.funcNamed "gaffer/gafferlaw05.ProgCuts" = some 10 by kernel_rfl).symm.trans hf) |>.symm
  obtain rfl : fn = Tryz.f10 := (Option.some.inj (Tryz.func10.symm.trans hfn)).symm
  refine ⟨by kernel_rfl, fun j t ht => ?_⟩
  rw [Tryz.params10] at ht
  have hm := Array.mem_of_getElem? ht
  simp only [List.mem_toArray, List.mem_cons, List.not_mem_nil, or_false] at hm
  rcases hm with rfl | rfl | rfl
  · exact (show Tryz.prog.wantsStandIn 24 = false by kernel_rfl)
  · exact (show Tryz.prog.wantsStandIn 3 = false by kernel_rfl)
  · exact (show Tryz.prog.wantsStandIn 9 = false by kernel_rfl)

theorem proved : Rows.ProgCutsUptoCardSaid :=
  Claim7.holds_tied_plain_at .later [] _ _ _ _ said (fun _ h => by cases h) (by kernel_rfl) (fun _ h => by cases h) progCutsUpto_row_tie rfl ⟨rfl, rfl⟩ (by kernel_rfl) rfl plain (by kernel_rfl)

end Go.Proofs.YtiidkgdlngcpgaaGreatDoor.progCuts
