/- script.read (contract). -/
import Derived.RangeFuncBox
import Derived.Test.YtdkencepmdfacaaGreatDoorTm
import Derived.Test.YtdkencepmdfacaaGreatDoorTq
import Derived.Test.YtdkencepmdfacaaGreatDoorTn
import Derived.Test.YtdkencepmdfacaaGreatDoorPu
import Derived.Test.YtdkencepmdfacaaGreatDoorGr5
set_option maxRecDepth 100000
namespace Go.Proofs.YtdkencepmdfacaaGreatDoor
open Go.RowKit Ieee

theorem kindOf_at {w : List UInt8} {k : Nat} (h0 : 1 ≤ k) (h1 : k ≤ 12) (h : stWord k = w) : kindOf w = k := by rw [← h]; exact (kind_cases h0 h1).1
theorem kindOf_none {w : List UInt8} (h : ∀ j : Nat, 1 ≤ j → j < 13 → stWord j ≠ w) : kindOf w = 0 := by
  by_cases hz : kindOf w = 0
  · exact hz
  · obtain ⟨h1, h2, h3⟩ := kindOf_some (w := w) rfl hz
    exact absurd h1 (h _ h2 (by omega))
theorem readStp_none {s w0 : List UInt8} {ws : List (List UInt8)} (hs : s.take 7 ≠ subW) (hw : spl 32 s = w0 :: ws) (h : kindOf w0 = 0) : readStp s = none := by
  unfold readStp
  rw [if_neg hs]
  unfold readWords
  rw [hw, if_pos (.inl h)]
/-- numbers that are left, in a block of a call's own -/
def NumsAt (w : World) (G : Nat) (v : Value) (l : List Int) : Prop := ∃ A cap, v = .slice A l.length cap ∧ l.length ≤ cap ∧ (l ≠ [] → ∃ g off, A = some ⟨g, off, none⟩ ∧ G < g ∧ g < w.heap.size ∧ ∀ j x, l[j]? = some x → w.cell? ⟨g, off + j, none⟩ = some (.int .i64 x))
theorem NumsAt.keep {w w' : World} {G : Nat} {v : Value} {l : List Int} (h : NumsAt w G v l) (hb : Below w.heap.size w w') : NumsAt w' G v l := by
  obtain ⟨A, cap, e, hc, h⟩ := h
  refine ⟨A, cap, e, hc, fun hl => ?_⟩
  obtain ⟨g, off, h1, h2, h3, h4⟩ := h hl
  exact ⟨g, off, h1, h2, Nat.lt_of_lt_of_le h3 hb.size, fun j x hx => (hb.cell (p := ⟨g, off + j, none⟩) h3).trans (h4 j x hx)⟩
theorem NumsAt.set {w : World} {G j : Nat} {v u : Value} {l : List Int} (h : NumsAt w G v l) : NumsAt (w.setCell ⟨G, j, none⟩ u) G v l := by
  obtain ⟨A, cap, e, hc, h⟩ := h
  refine ⟨A, cap, e, hc, fun hl => ?_⟩
  obtain ⟨g, off, h1, h2, h3, h4⟩ := h hl
  exact ⟨g, off, h1, h2, by simpa [World.setCell] using h3, fun j2 x hx => (World.cell?_of_block (w := w) (a := ⟨g, off + j2, none⟩) (Below.heap_setCell w ⟨G, j, none⟩ u g (by show g ≠ G; omega))).trans (h4 j2 x hx)⟩
theorem NumsAt.row {w : World} {G base : Nat} {A : Option Addr} {cap : Nat} {l : List Int} (h : RowN w base (.slice A l.length cap) l) (hb : G < base) : NumsAt w G (.slice A l.length cap) l := by
  rcases h.2 with ⟨h1, h0⟩ | ⟨g, cap', cur, h1, h2, h3, h4, _⟩
  · injection h1 with h1 _ h3
    have : l = [] := by cases l with | nil => rfl | cons a b => simp at h0
    subst this
    exact ⟨A, cap, rfl, by simp, fun hh => absurd rfl hh⟩
  · injection h1 with h1 _ h5
    subst h1 h5
    exact ⟨_, _, rfl, h4, fun hl => ⟨g, 0, rfl, by omega, (World.ownsRow.lt h g rfl).2, fun j x hx => by rw [Nat.zero_add]; exact RowN.cell h j x hx⟩⟩
theorem NumsAt.tail {w : World} {G g off cap : Nat} {x : Int} {l : List Int} (h : NumsAt w G (.slice (some ⟨g, off, none⟩) (x :: l).length cap) (x :: l)) : NumsAt w G (.slice (some ⟨g, off + 1, none⟩) l.length (cap - 1)) l := by
  obtain ⟨A, c, e, hc, h⟩ := h
  injection e with e1 _ e3
  subst e1 e3
  refine ⟨_, _, rfl, by simp at hc; omega, fun hl => ?_⟩
  obtain ⟨g', off', h1, h2, h3, h4⟩ := h (by simp)
  injection h1 with h1
  injection h1 with h1 h5
  subst h1 h5
  exact ⟨g, off + 1, rfl, h2, h3, fun j y hy => by
    have := h4 (j + 1) y (by rw [List.getElem?_cons_succ]; exact hy)
    rw [show off + 1 + j = off + (j + 1) by omega]
    exact this⟩
/-- the numbers that are left ahead of the i-th field; the i-th field -/
def remN (k : Int) (n : List Int) : Nat → List Int
  | 0 => n
  | 1 => rest1 k n
  | 2 => rest2 k n
  | _ => if stX k = true then (rest2 k n).tail else rest2 k n
def asgN (k : Int) (n : List Int) : Nat → Int
  | 0 => asgA k n
  | 1 => asgK k n
  | _ => asgX k n
theorem asg_step (k : Int) (n : List Int) (i : Nat) (hi : i < 3) : ∃ fb : Bool, (#[.bool (stA k), .bool (stK k), .bool (stX k)] : Array Value)[i]? = some (.bool fb) ∧ remN k n (i + 1) = (if fb = true then (remN k n i).tail else remN k n i) ∧ asgN k n i = (if fb = true then (remN k n i).headD 0 else 0) := by
  obtain rfl | rfl | rfl : i = 0 ∨ i = 1 ∨ i = 2 := by omega
  · exact ⟨stA k, rfl, rfl, rfl⟩
  · exact ⟨stK k, rfl, rfl, rfl⟩
  · exact ⟨stX k, rfl, rfl, rfl⟩
theorem readsP_empty {s : List UInt8} {o : Nat} {w0 : List UInt8} (hw : spl 32 s = [w0]) (ht : stT o = true) : readsP s o = none := by
  unfold readsP
  rw [hw]
  simp only [List.tail_cons, ht, if_true]
  cases numsZ (numW o []) <;> rfl
theorem readsP_num {s : List UInt8} {o : Nat} (h : numsZ (numW o (spl 32 s).tail) = none) : readsP s o = none := by
  unfold readsP
  rw [h]; rfl
theorem readsP_raw {s w0 : List UInt8} {ws : List (List UInt8)} {o : Nat} (hw : spl 32 s = w0 :: ws) (ht : stT o = true) (h : rawT (ws.getLastD []) = none) : readsP s o = none := by
  unfold readsP
  rw [hw]
  simp only [List.tail_cons, ht, if_true, h]
  cases numsZ (numW o ws) with
  | none => rfl
  | some n => show ((if ws = [] then none else none : Option (List UInt8))).bind _ = none; split <;> rfl
theorem readsP_all {s w0 : List UInt8} {ws : List (List UInt8)} {o : Nat} {n : List Int} {t : List UInt8} (hw : spl 32 s = w0 :: ws) (hn : numsZ (numW o ws) = some n) (ht : (stT o = true → ws ≠ [] ∧ rawT (ws.getLastD []) = some t) ∧ (stT o = false → t = [])) :
    readsP s o = if (mkStp o n t).line = s ∧ ¬ (mkStp o n t).isProg then some (mkStp o n t) else none := by
  unfold readsP
  rw [hw]
  simp only [List.tail_cons, hn, Option.bind_some]
  cases hT : stT (o : Int)
  · rw [ht.2 hT]; rfl
  · obtain ⟨h1, h2⟩ := ht.1 hT
    simp only [if_true]
    obtain ⟨u, us, rfl⟩ := List.exists_cons_of_ne_nil h1
    show (rawT ((u :: us).getLastD [])).bind _ = _
    rw [h2]; rfl
theorem mk_text {k : Int} {n : List Int} {t : List UInt8} (h : stT k = false → t = []) : mkStp k n t = ⟨k, asgN k n 0, asgN k n 1, asgN k n 2, t⟩ := by
  unfold mkStp
  cases hT : stT k
  · rw [h hT]; rfl
  · rfl
theorem rawT_len {s t : List UInt8} (h : rawT s = some t) : t.length ≤ s.length := by
  unfold rawT at h
  split at h
  · injection h with h; subst h; simp
  split at h
  · cases h
  · have e := hex_rawB s t h
    have key : ∀ l : List UInt8, l.length ≤ (hexB l).length := fun l => by
      induction l with
      | nil => simp
      | cons c l ih => rw [hexB_cons]; simp; omega
    rw [← e]
    exact key t
theorem set_same {w : World} {g j : Nat} {t : TypeId} {cs : Array Value} {v : Value} (h : Cells w g t cs) (hv : cs[j]? = some v) : w.setCell ⟨g, j, none⟩ v = w := by
  have e : cs.setIfInBounds j v = cs := by
    apply Array.ext_getElem?
    intro i
    rw [Array.getElem?_setIfInBounds]
    split
    · rename_i hi
      subst hi
      rw [hv]
      split
      · rfl
      · rename_i hn
        rw [Array.getElem?_eq_none (by omega)] at hv
        cases hv
    · rfl
  have h2 := h.set j v
  rw [e] at h2
  unfold Cells at h h2
  have hh : (w.setCell ⟨g, j, none⟩ v).heap = w.heap := by
    apply Array.ext_getElem?
    intro i
    by_cases hi : i = g
    · rw [hi, h, h2]
    · exact Below.heap_setCell w ⟨g, j, none⟩ v i hi
  unfold World.setCell at hh ⊢
  simp only at hh
  rw [hh]
theorem set5_same {w : World} {g : Nat} {t : TypeId} {a b c d e : Value} (h : Cells w g t #[a, b, c, d, e]) : ((((w.setCell ⟨g, 0, none⟩ a).setCell ⟨g, 1, none⟩ b).setCell ⟨g, 2, none⟩ c).setCell ⟨g, 3, none⟩ d).setCell ⟨g, 4, none⟩ e = w := by
  rw [set_same (v := a) h (j := 0) rfl, set_same (v := b) h (j := 1) rfl, set_same (v := c) h (j := 2) rfl, set_same (v := d) h (j := 3) rfl, set_same (v := e) h (j := 4) rfl]
theorem ptrs_at (G i : Nat) (hi : i < 3) : (#[.pointer (some ⟨G, 1, none⟩), .pointer (some ⟨G, 2, none⟩), .pointer (some ⟨G, 3, none⟩)] : Array Value)[i]? = some (.pointer (some ⟨G, 1 + i, none⟩)) := by
  obtain rfl | rfl | rfl : i = 0 ∨ i = 1 ∨ i = 2 := by omega
  all_goals rfl
theorem NumsAt.cut {w : World} {G g off cap : Nat} {x : Int} {l : List Int} (h : NumsAt w G (.slice (some ⟨g, off, none⟩) (x :: l).length cap) (x :: l)) : NumsAt w G (.slice (if cap = 1 then some ⟨g, off, none⟩ else some ⟨g, off + 1, none⟩) l.length (cap - 1)) l := by
  by_cases hc : cap = 1
  · rw [if_pos hc]
    obtain ⟨A, c, e, hcc, h⟩ := h
    injection e with e1 _ e3
    subst e3
    have hl : l = [] := by
      cases l with
      | nil => rfl
      | cons a b => simp at hcc; omega
    exact ⟨_, _, rfl, by rw [hl]; simp, fun hh => absurd hl hh⟩
  · rw [if_neg hc]
    exact h.tail
/-- a step's cells when i of its numbers have been laid -/
def partX (k : Int) (N : List Int) (T : ByteArray) (i : Nat) : Array Value := #[.int .i64 k, .int .i64 (if 0 < i then asgN k N 0 else 0), .int .i64 (if 1 < i then asgN k N 1 else 0), .int .i64 (if 2 < i then asgN k N 2 else 0), .string T]
theorem partX_same (k : Int) (N : List Int) (T : ByteArray) (i : Nat) (hi : i < 3) (h : asgN k N i = 0) : partX k N T (i + 1) = partX k N T i := by
  obtain rfl | rfl | rfl : i = 0 ∨ i = 1 ∨ i = 2 := by omega
  all_goals simp [partX, h]
theorem partX_set (k : Int) (N : List Int) (T : ByteArray) (i : Nat) (hi : i < 3) : (partX k N T i).setIfInBounds (1 + i) (.int .i64 (asgN k N i)) = partX k N T (i + 1) := by
  obtain rfl | rfl | rfl : i = 0 ∨ i = 1 ∨ i = 2 := by omega
  all_goals simp [partX]
theorem partX_at (k : Int) (N : List Int) (T : ByteArray) (i : Nat) (hi : i < 3) : ∃ v, (partX k N T i)[1 + i]? = some v := by
  obtain rfl | rfl | rfl : i = 0 ∨ i = 1 ∨ i = 2 := by omega
  all_goals exact ⟨_, rfl⟩
set_option maxHeartbeats 16000000 in
set_option maxRecDepth 100000 in
theorem sread_sub (s : List UInt8) (hs : s.length ≤ 4096) (w : World) (hA : LibAt w) (hsub : s.take 7 = subW) :
    Calls Tryz.prog 30 #[.string (strOf s)] w fun e w' => (∃ x : Stp, e = .returned (.tuple #[x.val, .bool (readStp s).isSome]) ∧ ∀ y, readStp s = some y → x = y) ∧ Below w.heap.size w w' := by
  have HA : Hid (∀ W, Below w.heap.size w W → LibAt W) := Lib.hid fun W hW => hA.keep hW
  have HX := Lib.hid (Cells.new w 34 #[.int .i64 0, .int .i64 0, .int .i64 0, .int .i64 0, .string ⟨#[]⟩])
  have HB := Lib.hid ((Below.refl w.heap.size w).alloc (Nat.le_refl _) (.cells #[.int .i64 0, .int .i64 0, .int .i64 0, .int .i64 0, .string ⟨#[]⟩] 34))
  obtain ⟨sp1, sp2⟩ := sub_prefix s
  have KC : Hid (∀ W, Calls Tryz.prog 51 #[.string (strOf s), .string ⟨#[115, 117, 98, 109, 105, 116, 32]⟩] W fun e w' => e = .returned (.tuple #[.string (strOf (s.drop 7)), .bool true]) ∧ w' = W) := Lib.hid fun W => by
    have k := cutsub_any s W
    rw [sp1.2 hsub, sp2 hsub] at k
    exact k
  have hrs : readStp s = readSub (s.drop 7) := by unfold readStp; rw [if_pos hsub]
  rw [hrs]
  obtain ⟨RS, hRS⟩ : ∃ RS, readSub (s.drop 7) = RS := ⟨_, rfl⟩
  obtain ⟨x, hx⟩ : ∃ x, RS.getD stp0 = x := ⟨_, rfl⟩
  have HXS : Hid (∀ y, RS = some y → x = y) := Lib.hid fun y hy => by rw [← hx, hy]; rfl
  have HKS : Hid (∀ W, LibAt W → Calls Tryz.prog 52 #[.string (strOf (s.drop 7))] W fun e w' => e = .returned (.tuple #[.agg #[.int .i64 x.kind, .int .i64 x.a, .int .i64 x.k, .int .i64 x.x, .string x.str], .bool RS.isSome]) ∧ Below W.heap.size W w') := Lib.hid fun W hW => by
    have k := ssubmit_any (s.drop 7) (by rw [List.length_drop]; omega) W hW
    rw [hRS, hx] at k
    exact k
  rw [hRS]
  clear hRS hx sp1 sp2 hrs hA hsub hs
  generalize strOf (s.drop 7) = S1 at *
  generalize strOf s = S0 at *
  go_enter Tryz.func30, Tryz.ntmps30
  go_upto_region 1 with fail
  generalize w.alloc (.cells #[.int .i64 0, .int .i64 0, .int .i64 0, .int .i64 0, .string ⟨#[]⟩] 34) = w1 at *
  obtain ⟨xd, xa, xk, xx, xt⟩ := x
  dsimp only at HKS
  obtain ⟨XT, hXT⟩ : ∃ XT, (Stp.mk xd xa xk xx xt).str = XT := ⟨_, rfl⟩
  have HXT := Lib.hid hXT
  rw [hXT] at HKS
  clear hXT
  go_wp2_with (first | (go_at_call 51; refine (KC.out _).mono ?_; rintro _ _ ⟨rfl, rfl⟩) | (go_at_call 52; refine (HKS.out _ (HA.out _ HB.out)).mono ?_; rintro _ w2 ⟨rfl, hb2⟩; have HX2 := Lib.hid (HX.out.keep hb2); have HB2 := Lib.hid (grow_to HB.out hb2); have x0 : w2.cell? ⟨w.heap.size, 0, none⟩ = some (.int .i64 0) := HX2.out.cell (j := 0) rfl; have x1 : w2.cell? ⟨w.heap.size, 1, none⟩ = some (.int .i64 0) := HX2.out.cell (j := 1) rfl; have x2 : w2.cell? ⟨w.heap.size, 2, none⟩ = some (.int .i64 0) := HX2.out.cell (j := 2) rfl; have x3 : w2.cell? ⟨w.heap.size, 3, none⟩ = some (.int .i64 0) := HX2.out.cell (j := 3) rfl; have x4 : w2.cell? ⟨w.heap.size, 4, none⟩ = some (.string ⟨#[]⟩) := HX2.out.cell (j := 4) rfl; have xz0 := HX2.out.fz 0; have xz1 := HX2.out.fz 1; have xz2 := HX2.out.fz 2; have xz3 := HX2.out.fz 3; have xz4 := HX2.out.fz 4; clear hb2))
  exact ret_step2 rfl rfl rfl (set5_cells HX2.out) rfl ⟨⟨Stp.mk xd xa xk xx xt, by show _ = Ending.returned (.tuple #[.agg #[_, _, _, _, .string (Stp.mk xd xa xk xx xt).str], _]); rw [HXT.out]; rfl, HXS.out⟩, set5_below HB2.out (Nat.le_refl _)⟩

set_option maxHeartbeats 32000000 in
set_option maxRecDepth 100000 in
theorem sread_word (s : List UInt8) (hs : s.length ≤ 4096) (w : World) (hA : LibAt w) (hsub : s.take 7 ≠ subW) :
    Calls Tryz.prog 30 #[.string (strOf s)] w fun e w' => (∃ x : Stp, e = .returned (.tuple #[x.val, .bool (readStp s).isSome]) ∧ ∀ y, readStp s = some y → x = y) ∧ Below w.heap.size w w' := by
  have HA : Hid (∀ W, Below w.heap.size w W → LibAt W) := Lib.hid fun W hW => hA.keep hW
  have HX := Lib.hid (Cells.new w 34 #[.int .i64 0, .int .i64 0, .int .i64 0, .int .i64 0, .string ⟨#[]⟩])
  have HB := Lib.hid ((Below.refl w.heap.size w).alloc (Nat.le_refl _) (.cells #[.int .i64 0, .int .i64 0, .int .i64 0, .int .i64 0, .string ⟨#[]⟩] 34))
  obtain ⟨sp1, sp2⟩ := sub_prefix s
  have KC : Hid (∀ W, Calls Tryz.prog 51 #[.string (strOf s), .string ⟨#[115, 117, 98, 109, 105, 116, 32]⟩] W fun e w' => e = .returned (.tuple #[.string (strOf (Lib.trimPrefix s subW)), .bool false]) ∧ w' = W) := Lib.hid fun W => by
    have k := cutsub_any s W
    rw [show Lib.hasPrefix s subW = false from by
      cases h : Lib.hasPrefix s subW
      · rfl
      · exact absurd (sp1.1 h) hsub] at k
    exact k
  obtain ⟨w0, ws, hws⟩ := spl_cons 32 s
  have ksp := fun W => split_any 32 s (by omega) W
  rw [hws] at ksp
  obtain ⟨m, hm⟩ : ∃ m, ws.length = m := ⟨_, rfl⟩
  have HM := Lib.hid hm
  have hnl : m ≤ 4096 := by
    have h1 := spl_count 32 s
    rw [hws, List.length_cons, hm] at h1
    have : s.count 32 ≤ s.length := List.count_le_length
    omega
  have HNL := Lib.hid hnl
  have HPL : Hid (∀ p ∈ ws, p.length ≤ 4096) := Lib.hid fun p hp => by
    have h1 := spl_len 32 s p (by rw [hws]; simp [hp])
    omega
  rw [List.length_cons, hm, List.map_cons] at ksp
  have KSP := Lib.hid ksp
  obtain ⟨RD, hRD⟩ : ∃ RD, readStp s = RD := ⟨_, rfl⟩
  rw [hRD]
  have HRN : Hid (kindOf w0 = 0 → RD = none) := Lib.hid fun h => by rw [← hRD]; exact readStp_none hsub hws h
  have HRP : Hid (∀ k : Nat, 1 ≤ k → k ≤ 12 → stWord k = w0 → RD = readsP s k) := Lib.hid fun k h1 h2 h3 => by
    rw [← hRD]
    exact readsP_is (by rw [hws]; exact kindOf_at h1 h2 h3) (by omega) hsub
  have HWS := Lib.hid hws
  clear hRD hws ksp hm sp1 sp2 hA hsub hs hnl
  obtain ⟨S0, hS0⟩ : ∃ S0, strOf s = S0 := ⟨_, rfl⟩
  have HS0 := Lib.hid hS0
  rw [hS0] at KC KSP ⊢
  clear hS0
  generalize strOf (Lib.trimPrefix s subW) = S1 at *
  go_enter Tryz.func30, Tryz.ntmps30
  go_upto_region 1 with fail
  generalize w.alloc (.cells #[.int .i64 0, .int .i64 0, .int .i64 0, .int .i64 0, .string ⟨#[]⟩] 34) = w1 at *
  go_upto_region 5 with (first | (go_at_call 51; refine (KC.out _).mono ?_; rintro _ w1 ⟨rfl, rfl⟩) | (go_at_call 49; refine (KSP.out _).mono ?_; rintro _ _ ⟨rfl, rfl⟩))
  have HC2 := Lib.hid (Cells.new w1 9 (Value.string (strOf w0) :: ws.map fun p => Value.string (strOf p)).toArray)
  have HX2 := Lib.hid (HX.out.alloc (.cells (Value.string (strOf w0) :: ws.map fun p => Value.string (strOf p)).toArray 9))
  have HB2 := Lib.hid (HB.out.alloc HB.out.size (.cells (Value.string (strOf w0) :: ws.map fun p => Value.string (strOf p)).toArray 9))
  have HGW : Hid (w.heap.size < w1.heap.size) := Lib.hid HX.out.lt
  clear KC KSP HX HB
  generalize w1.alloc (.cells (Value.string (strOf w0) :: ws.map fun p => Value.string (strOf p)).toArray 9) = w2 at *
  generalize w1.heap.size = WB at *
  go_wp2
  go_loopw [6, 7] (fun sv kv wr => ∃ k : Nat, 1 ≤ k ∧ k ≤ 13 ∧ sv = .slice (some ⟨WB, 0, none⟩) (m + 1) (m + 1) ∧ kv = .int .i64 (k : Int) ∧ Cells wr w.heap.size 34 #[.int .i64 0, .int .i64 0, .int .i64 0, .int .i64 0, .string ⟨#[]⟩] ∧ Cells wr WB 9 (Value.string (strOf w0) :: ws.map fun p => Value.string (strOf p)).toArray ∧ Below w.heap.size w wr ∧ ∀ j : Nat, 1 ≤ j → j < k → stWord j ≠ w0) (fun _ kv _ => 13 - (intOf kv).toNat)
  case atStart => exact ⟨1, by omega, by omega, rfl, rfl, HX2.out, HC2.out, HB2.out, fun j h1 h2 => absurd h1 (by omega)⟩
  case round =>
    obtain ⟨k, hk1, hk13, rfl, rfl, hx, hc, hb, hno⟩ := hrel
    have HXR := Lib.hid hx
    have HCR := Lib.hid hc
    have HBR := Lib.hid hb
    have HNO := Lib.hid hno
    have HK1 := Lib.hid hk1
    have HK13 := Lib.hid hk13
    clear hx hc hb hno HX2 HC2 HB2
    by_cases hk : k ≤ 12
    case neg =>
      obtain rfl : k = 13 := by omega
      have HN : Hid (RD = none) := Lib.hid (HRN.out (kindOf_none HNO.out))
      clear hk hk1 hk13
      have x0 : wr.cell? ⟨w.heap.size, 0, none⟩ = some (.int .i64 0) := HXR.out.cell (j := 0) rfl
      have x1 : wr.cell? ⟨w.heap.size, 1, none⟩ = some (.int .i64 0) := HXR.out.cell (j := 1) rfl
      have x2 : wr.cell? ⟨w.heap.size, 2, none⟩ = some (.int .i64 0) := HXR.out.cell (j := 2) rfl
      have x3 : wr.cell? ⟨w.heap.size, 3, none⟩ = some (.int .i64 0) := HXR.out.cell (j := 3) rfl
      have x4 : wr.cell? ⟨w.heap.size, 4, none⟩ = some (.string ⟨#[]⟩) := HXR.out.cell (j := 4) rfl
      have xz0 := HXR.out.fz 0
      have xz1 := HXR.out.fz 1
      have xz2 := HXR.out.fz 2
      have xz3 := HXR.out.fz 3
      have xz4 := HXR.out.fz 4
      go_wp2
      exact ret_step2 rfl rfl rfl (set5_cells HXR.out) rfl ⟨⟨stp0, by rw [HN.out]; rfl, fun y hy => by rw [HN.out] at hy; cases hy⟩, set5_below HBR.out (Nat.le_refl _)⟩
    have HK := Lib.hid hk
    have k0 : (0 : Int) ≤ k := by omega
    have k12 : (k : Int) ≤ 12 := by omega
    have hwk : wrap64 ((k : Int) + 1) = (k : Int) + 1 := by unfold wrap64; omega
    have HWK := Lib.hid hwk
    have c0 : wr.cell? ⟨WB, 0, none⟩ = some (.string (strOf w0)) := HCR.out.cell (by rw [List.getElem?_toArray]; rfl)
    have kf := fun W => formOf_any (k : Int) W
    rw [show formV (k : Int) = .agg #[.string (strOf (stWord k)), .bool (stA k), .bool (stK k), .bool (stX k), .bool (stT k)] from by
      unfold formV
      rw [if_pos ⟨by omega, k12⟩, Int.toNat_natCast]] at kf
    obtain ⟨WD, hWD⟩ : ∃ WD, strOf (stWord k) = WD := ⟨_, rfl⟩
    have HWD := Lib.hid hWD
    obtain ⟨fa, hfa⟩ : ∃ fa, stA k = fa := ⟨_, rfl⟩
    obtain ⟨fk, hfk⟩ : ∃ fk, stK k = fk := ⟨_, rfl⟩
    obtain ⟨fx, hfx⟩ : ∃ fx, stX k = fx := ⟨_, rfl⟩
    obtain ⟨ft, hft⟩ : ∃ ft, stT k = ft := ⟨_, rfl⟩
    have HFT := Lib.hid hft
    have HST : Hid (∀ (n : List Int) (i : Nat), i < 3 → ∃ fb : Bool, (#[.bool fa, .bool fk, .bool fx] : Array Value)[i]? = some (.bool fb) ∧ remN k n (i + 1) = (if fb = true then (remN k n i).tail else remN k n i) ∧ asgN k n i = (if fb = true then (remN k n i).headD 0 else 0)) := Lib.hid fun n i hi => by
      have := asg_step k n i hi
      rwa [hfa, hfk, hfx] at this
    rw [hWD, hfa, hfk, hfx, hft] at kf
    have KF := Lib.hid kf
    clear kf hWD hfa hfk hfx hft hk hk1 hk13 hwk
    go_upto_region 9 with (go_at_call 14; refine (KF.out _).mono ?_; rintro _ w4 ⟨rfl, hb4⟩; have HX4 := Lib.hid (HXR.out.keep hb4); have HC4 := Lib.hid (HCR.out.keep hb4); have HB4 := Lib.hid (grow_to HBR.out hb4); clear hb4)
    have HF5 := Lib.hid (Cells.new w4 39 #[.string WD, .bool fa, .bool fk, .bool fx, .bool ft])
    have HX5 := Lib.hid (HX4.out.alloc (.cells #[.string WD, .bool fa, .bool fk, .bool fx, .bool ft] 39))
    have HC5 := Lib.hid (HC4.out.alloc (.cells #[.string WD, .bool fa, .bool fk, .bool fx, .bool ft] 39))
    have HB5 := Lib.hid (HB4.out.alloc HB4.out.size (.cells #[.string WD, .bool fa, .bool fk, .bool fx, .bool ft] 39))
    have HGF : Hid (w.heap.size < w4.heap.size) := Lib.hid HX4.out.lt
    clear c0 HXR HCR HBR HX4 HC4 HB4 KF
    generalize w4.alloc (.cells #[.string WD, .bool fa, .bool fk, .bool fx, .bool ft] 39) = w5 at *
    generalize w4.heap.size = FB at *
    clear w4
    have f0 : ∀ y : BW w5, y.val.cell? ⟨FB, 0, none⟩ = some (.string WD) := fun y => y.cell (HF5.out.cell (j := 0) rfl)
    by_cases hwd : stWord k = w0
    case neg =>
      obtain ⟨SW, hSW⟩ : ∃ SW, strOf w0 = SW := ⟨_, rfl⟩
      have c0 : ∀ y : BW w5, y.val.cell? ⟨WB, 0, none⟩ = some (.string SW) := fun y => y.cell (HC5.out.cell (by rw [List.getElem?_toArray, ← hSW]; rfl))
      have hd : (WD.toList == SW.toList) = false := by rw [← HWD.out, ← hSW, str_toList, str_toList, beq_eq_false_iff_ne]; exact hwd
      clear hSW
      have HNE := Lib.hid hwd
      clear hwd
      refine wp_region_bw (w := w5) (by kernel_rfl) (by kernel_rfl) ?_
      repeat (refine wpQuiet_step (fun K hK => ?_); go_simp; first | (refine hK _ ?_; clear hK K) | (apply Exists.intro; refine ⟨fun _ => ?_, hK _ ?_⟩; (fail); clear hK K))
      refine wpQuiet_nil ?_
      intro yq
      have HX6 := Lib.hid (HX5.out.keep yq.below)
      have HC6 := Lib.hid (HC5.out.keep yq.below)
      have HB6 := Lib.hid (grow_to HB5.out yq.below)
      clear f0 c0 HF5 HX5 HC5 HB5
      generalize yq.val = w6 at *
      go_wp2
      exact ⟨⟨k + 1, by omega, by have := HK.out; omega, rfl, by first | exact up_val HWK.out | rfl, HX6.out, HC6.out, HB6.out, fun j h1 h2 => by
        rcases Nat.lt_or_ge j k with h | h
        · exact HNO.out j h1 h
        · obtain rfl : j = k := by omega
          exact HNE.out⟩, by first | exact up_end (Nat.lt_succ_of_le HK.out) HWK.out | (have hh := HK.out; simp [intOf]; omega)⟩
    have c0 : ∀ y : BW w5, y.val.cell? ⟨WB, 0, none⟩ = some (.string WD) := fun y => y.cell (HC5.out.cell (by rw [List.getElem?_toArray, ← HWD.out, hwd]; rfl))
    have HRD : Hid (RD = readsP s k) := Lib.hid (HRP.out k HK1.out HK.out hwd)
    clear hwd HRN HRP HNO
    refine wp_region_bw (w := w5) (by kernel_rfl) (by kernel_rfl) ?_
    repeat (refine wpQuiet_step (fun K hK => ?_); go_simp; first | (refine hK _ ?_; clear hK K) | (apply Exists.intro; refine ⟨fun _ => ?_, hK _ ?_⟩; (fail); clear hK K))
    refine wpQuiet_nil ?_
    intro yq
    have HX6 := Lib.hid (HX5.out.keep yq.below)
    have HC6 := Lib.hid (HC5.out.keep yq.below)
    have HF6 := Lib.hid (HF5.out.keep yq.below)
    have HB6 := Lib.hid (grow_to HB5.out yq.below)
    clear f0 c0 HF5 HX5 HC5 HB5
    generalize yq.val = w6 at *
    clear yq w5
    have x0 : w6.cell? ⟨w.heap.size, 0, none⟩ = some (.int .i64 0) := HX6.out.cell (j := 0) rfl
    have z0 := HX6.out.fz 0
    have hm1 : (1 : Int) ≤ ((m + 1 : Nat) : Int) := by omega
    have HKD : Hid (∀ v, Cells w6 w.heap.size 34 #[.int .i64 0, .int .i64 0, .int .i64 0, .int .i64 0, .string ⟨#[]⟩] → Cells (w6.setCell ⟨w.heap.size, 0, none⟩ v) w.heap.size 34 #[v, .int .i64 0, .int .i64 0, .int .i64 0, .string ⟨#[]⟩]) := Lib.hid fun v h => h.set 0 v
    go_upto_region 11 with fail
    have HX7 := Lib.hid (HKD.out (.int .i64 (k : Int)) HX6.out)
    have HC7 := Lib.hid (HC6.out.far (a := ⟨w.heap.size, 0, none⟩) (by have := HGW.out; show WB ≠ w.heap.size; omega) (.int .i64 (k : Int)))
    have HF7 := Lib.hid (HF6.out.far (a := ⟨w.heap.size, 0, none⟩) (by have := HGF.out; show FB ≠ w.heap.size; omega) (.int .i64 (k : Int)))
    have HB7 := Lib.hid (HB6.out.setCell (p := ⟨w.heap.size, 0, none⟩) (Nat.le_refl _) (.int .i64 (k : Int)))
    clear x0 z0 HX6 HC6 HF6 HB6 HKD
    generalize w6.setCell ⟨w.heap.size, 0, none⟩ (.int .i64 (k : Int)) = w7 at *
    clear w6
    obtain ⟨o1, ho1⟩ : ∃ o1 : Nat, (if m = 0 then 0 else 1) = o1 := ⟨_, rfl⟩
    have hadr : (if m = 0 then some (⟨WB, 0, none⟩ : Addr) else some ⟨WB, 1, none⟩) = some ⟨WB, o1, none⟩ := by rw [← ho1]; split <;> rfl
    have HO1 : Hid (m ≠ 0 → o1 = 1) := Lib.hid fun h => by rw [← ho1, if_neg h]
    have HW7 : Hid (∀ j p, ws[j]? = some p → w7.cell? ⟨WB, o1 + j, none⟩ = some (.string (strOf p))) := Lib.hid fun j p hp => by
      have : m ≠ 0 := fun h => by
        have h2 := (List.getElem?_eq_some_iff.1 hp).1
        rw [HM.out, h] at h2
        exact absurd h2 (by omega)
      rw [HO1.out this]
      exact HC7.out.cell (by rw [Nat.add_comm 1 j, List.getElem?_toArray, List.getElem?_cons_succ, List.getElem?_map, hp]; rfl)
    go_upto_region 12 with fail
    try simp only [hadr]
    have f4 : w7.cell? ⟨FB, 4, none⟩ = some (.bool ft) := HF7.out.cell (j := 4) rfl
    clear hadr ho1
    cases ft with
    | false =>
      have HXN := HX7
      have HFN := HF7
      have HBN := HB7
      have HCN := HC7
      have HNW := HW7
      obtain ⟨TXS, hTXS⟩ : ∃ T, (⟨#[]⟩ : ByteArray) = T := ⟨_, rfl⟩
      have HTEX0 : Hid (strOf ([] : List UInt8) = TXS) := Lib.hid hTXS
      rw [hTXS] at HXN
      clear hTXS
      obtain ⟨tx, htx⟩ : ∃ t : List UInt8, t = [] := ⟨_, rfl⟩
      have HTEX : Hid (strOf tx = TXS) := Lib.hid (by rw [htx]; exact HTEX0.out)
      have HTL : Hid (tx.length ≤ 4096) := Lib.hid (by rw [htx]; simp)
      have HTF : Hid (stT (k : Int) = false → tx = []) := Lib.hid fun _ => htx
      have HNQW : Hid (numW (k : Int) ws = ws) := Lib.hid (by unfold numW; rw [HFT.out]; rfl)
      have HTT : Hid ((stT (k : Int) = true → ws ≠ [] ∧ rawT (ws.getLastD []) = some tx) ∧ (stT (k : Int) = false → tx = [])) := Lib.hid ⟨fun h => (by rw [HFT.out] at h; cases h), fun _ => htx⟩
      clear htx
      have HNUML := Lib.hid (snums_any ws (by rw [HM.out]; have := HNL.out; omega) (fun p hp => by have := HPL.out p hp; omega) WB o1 m w7 HCN.out.lt HNW.out (HA.out _ HBN.out).all)
      obtain ⟨NL, hNL⟩ : ∃ NL, (numsZ ws).getD [] = NL := ⟨_, rfl⟩
      obtain ⟨AL, hAL⟩ : ∃ AL, (numsZ ws).isSome = AL := ⟨_, rfl⟩
      have HNUM : Hid ((AL = true → numsZ ws = some NL) ∧ (AL = false → numsZ ws = none)) := Lib.hid (by
        cases hn : numsZ ws with
        | none => rw [hn] at hAL; subst hAL; exact ⟨fun h => (by cases h), fun _ => rfl⟩
        | some l => rw [hn] at hAL hNL; subst hAL; exact ⟨fun _ => (by rw [← hNL]; rfl), fun h => (by cases h)⟩)
      have KNU : Hid (Calls Tryz.prog 50 #[.slice (some ⟨WB, o1, none⟩) m m] w7 fun e w' => (∃ A cap2, e = .returned (.tuple #[.slice A NL.length cap2, .bool AL]) ∧ RowN w' w7.heap.size (.slice A NL.length cap2) NL) ∧ Below w7.heap.size w7 w') := Lib.hid (by
        have k := HNUML.out
        rw [hNL, hAL, HM.out] at k
        exact k)
      clear hNL hAL HNUML
      go_upto_region 18 with (go_at_call 50; refine KNU.out.mono ?_; rintro _ w9 ⟨⟨A, c2, rfl, hr9⟩, hb9⟩; have HX9 := Lib.hid (HXN.out.keep hb9); have HF9 := Lib.hid (HFN.out.keep hb9); have HB9 := Lib.hid (grow_to HBN.out hb9); have HN9 := Lib.hid (NumsAt.row (G := w.heap.size) hr9 HXN.out.lt); clear hr9 hb9)
      clear KNU HXN HFN HBN HCN
      go_wp2
      have HP10 := Lib.hid (Cells.new w9 89 #[.pointer (some ⟨w.heap.size, 1, none⟩), .pointer (some ⟨w.heap.size, 2, none⟩), .pointer (some ⟨w.heap.size, 3, none⟩)])
      have HX10 := Lib.hid (HX9.out.alloc (.cells #[.pointer (some ⟨w.heap.size, 1, none⟩), .pointer (some ⟨w.heap.size, 2, none⟩), .pointer (some ⟨w.heap.size, 3, none⟩)] 89))
      have HF10 := Lib.hid (HF9.out.alloc (.cells #[.pointer (some ⟨w.heap.size, 1, none⟩), .pointer (some ⟨w.heap.size, 2, none⟩), .pointer (some ⟨w.heap.size, 3, none⟩)] 89))
      have HN10 := Lib.hid (HN9.out.keep ((Below.refl w9.heap.size w9).alloc (Nat.le_refl _) (.cells #[.pointer (some ⟨w.heap.size, 1, none⟩), .pointer (some ⟨w.heap.size, 2, none⟩), .pointer (some ⟨w.heap.size, 3, none⟩)] 89)))
      have HB10 := Lib.hid (HB9.out.alloc HB9.out.size (.cells #[.pointer (some ⟨w.heap.size, 1, none⟩), .pointer (some ⟨w.heap.size, 2, none⟩), .pointer (some ⟨w.heap.size, 3, none⟩)] 89))
      have HGP : Hid (w.heap.size < w9.heap.size) := Lib.hid HX9.out.lt
      clear HX9 HF9 HN9 HB9
      generalize w9.alloc (.cells #[.pointer (some ⟨w.heap.size, 1, none⟩), .pointer (some ⟨w.heap.size, 2, none⟩), .pointer (some ⟨w.heap.size, 3, none⟩)] 89) = w10 at *
      generalize w9.heap.size = PB at *
      clear w9
      go_loopw [75, 9] (fun iv nv wx => ∃ i : Nat, i ≤ 3 ∧ iv = .int .i64 (i : Int) ∧ NumsAt wx w.heap.size nv (remN k NL i) ∧ Cells wx w.heap.size 34 (partX k NL TXS i) ∧ Cells wx PB 89 #[.pointer (some ⟨w.heap.size, 1, none⟩), .pointer (some ⟨w.heap.size, 2, none⟩), .pointer (some ⟨w.heap.size, 3, none⟩)] ∧ Cells wx FB 39 #[.string WD, .bool fa, .bool fk, .bool fx, .bool false] ∧ Below w.heap.size w wx) (fun iv _ _ => 3 - (intOf iv).toNat)
      case atStart => exact ⟨0, by omega, rfl, HN10.out, HX10.out, HP10.out, HF10.out, HB10.out⟩
      case round =>
        obtain ⟨i, hi, rfl, hn, hx, hp, hf, hb⟩ := hrel
        have HNR := Lib.hid hn
        have HXR := Lib.hid hx
        have HPR := Lib.hid hp
        have HFR := Lib.hid hf
        have HBR := Lib.hid hb
        clear hx hp hf hb HN10 HX10 HP10 HF10 HB10
        by_cases hlt : i < 3
        · obtain ⟨fb, hbv, hrem, hval⟩ := HST.out NL i hlt
          obtain ⟨A', cap', rfl, hcap, hnz⟩ := hn
          have p0 : wr.cell? ⟨PB, i, none⟩ = some (.pointer (some ⟨w.heap.size, 1 + i, none⟩)) := HPR.out.cell (ptrs_at _ i hlt)
          have f1 : wr.cell? ⟨FB, 1, none⟩ = some (.bool fa) := HFR.out.cell (j := 1) rfl
          have f2 : wr.cell? ⟨FB, 2, none⟩ = some (.bool fk) := HFR.out.cell (j := 2) rfl
          have f3 : wr.cell? ⟨FB, 3, none⟩ = some (.bool fx) := HFR.out.cell (j := 3) rfl
          have l0 : (wr.alloc (.cells #[.bool fa, .bool fk, .bool fx] 4)).cell? ⟨wr.heap.size, i, none⟩ = some (.bool fb) := (Cells.new wr 4 #[.bool fa, .bool fk, .bool fx]).cell hbv
          have HBA := Lib.hid (HBR.out.alloc HBR.out.size (.cells #[.bool fa, .bool fk, .bool fx] 4))
          have HPA := Lib.hid (HPR.out.alloc (.cells #[.bool fa, .bool fk, .bool fx] 4))
          have HFA := Lib.hid (HFR.out.alloc (.cells #[.bool fa, .bool fk, .bool fx] 4))
          have HXA := Lib.hid (HXR.out.alloc (.cells #[.bool fa, .bool fk, .bool fx] 4))
          have HNA := Lib.hid (HNR.out.keep ((Below.refl wr.heap.size wr).alloc (Nat.le_refl _) (.cells #[.bool fa, .bool fk, .bool fx] 4)))
          have i2 : (0 : Int) ≤ i := by omega
          have i3 : (i : Int) < 3 := by omega
          have hwi : wrap64 ((i : Int) + 1) = (i : Int) + 1 := by unfold wrap64; omega
          have HWI := Lib.hid hwi
          have HLT := Lib.hid hlt
          have HREM := Lib.hid hrem
          have HVAL := Lib.hid hval
          clear hbv hrem hval hwi hlt hi
          cases fb with
          | false =>
            have HR2 : Hid (remN k NL (i + 1) = remN k NL i) := Lib.hid (by rw [HREM.out]; rfl)
            have HX2 : Hid (partX k NL TXS (i + 1) = partX k NL TXS i) := Lib.hid (partX_same _ _ _ _ HLT.out (by rw [HVAL.out]; rfl))
            clear hnz hcap
            generalize (remN k NL i).length = nl at *
            go_wp2
            exact ⟨⟨i + 1, by have := HLT.out; omega, by first | exact up_val HWI.out | rfl, by rw [HR2.out]; exact HNA.out, by rw [HX2.out]; exact HXA.out, HPA.out, HFA.out, HBA.out⟩, by first | exact up_end HLT.out HWI.out | (have hh := HLT.out; simp [intOf]; omega)⟩
          | true =>
            cases hr : remN k NL i with
            | nil =>
              have HR2 : Hid (remN k NL (i + 1) = []) := Lib.hid (by rw [HREM.out, hr]; rfl)
              have HX2 : Hid (partX k NL TXS (i + 1) = partX k NL TXS i) := Lib.hid (partX_same _ _ _ _ HLT.out (by rw [HVAL.out, hr]; rfl))
              rw [hr] at HNA
              clear hnz hcap
              simp only [List.length_nil] at HNA ⊢
              go_wp2
              exact ⟨⟨i + 1, by have := HLT.out; omega, by first | exact up_val HWI.out | rfl, by rw [HR2.out]; exact HNA.out, by rw [HX2.out]; exact HXA.out, HPA.out, HFA.out, HBA.out⟩, by first | exact up_end HLT.out HWI.out | (have hh := HLT.out; simp [intOf]; omega)⟩
            | cons v r =>
              have HR2 : Hid (remN k NL (i + 1) = r) := Lib.hid (by rw [HREM.out, hr]; rfl)
              have HV2 : Hid (asgN k NL i = v) := Lib.hid (by rw [HVAL.out, hr]; rfl)
              rw [hr] at hnz hcap HNA
              obtain ⟨g, off, rfl, hg1, hg2, hgc⟩ := hnz (by simp)
              have n0 : (wr.alloc (.cells #[.bool fa, .bool fk, .bool fx] 4)).cell? ⟨g, off, none⟩ = some (.int .i64 v) := cell_keeps ((Below.refl wr.heap.size wr).alloc (Nat.le_refl _) (.cells #[.bool fa, .bool fk, .bool fx] 4)) (by have := hgc 0 v rfl; rwa [Nat.add_zero] at this)
              obtain ⟨ov, hov⟩ := partX_at k NL TXS i HLT.out
              have x0 : (wr.alloc (.cells #[.bool fa, .bool fk, .bool fx] 4)).cell? ⟨w.heap.size, 1 + i, none⟩ = some ov := HXA.out.cell hov
              have xz : (wr.alloc (.cells #[.bool fa, .bool fk, .bool fx] 4)).frozen? ⟨w.heap.size, 1 + i, none⟩ = false := HXA.out.fz (1 + i)
              have HCUT := Lib.hid (HNA.out.cut)
              have HXS : Hid (Cells ((wr.alloc (.cells #[.bool fa, .bool fk, .bool fx] 4)).setCell ⟨w.heap.size, 1 + i, none⟩ (.int .i64 v)) w.heap.size 34 (partX k NL TXS (i + 1))) := Lib.hid (by
                have h := HXA.out.set (1 + i) (.int .i64 (asgN k NL i))
                rw [partX_set _ _ _ _ HLT.out, HV2.out] at h
                exact h)
              have r1 : (1 : Int) ≤ ((r.length + 1 : Nat) : Int) := by omega
              have r2 : (0 : Int) < ((r.length + 1 : Nat) : Int) := by omega
              have r3 : r.length + 1 ≤ cap' := by simpa using hcap
              have r4 : ((r.length + 1 : Nat) : Int) ≤ (cap' : Int) := by omega
              clear hov hnz hcap hgc hg1 hg2
              simp only [List.length_cons] at HNA HCUT ⊢
              go_wp2
              exact ⟨⟨i + 1, by have := HLT.out; omega, by first | exact up_val HWI.out | rfl, by rw [HR2.out]; exact HCUT.out.set, HXS.out, HPA.out.far (a := ⟨w.heap.size, 1 + i, none⟩) (by have := HGP.out; show PB ≠ w.heap.size; omega) _, HFA.out.far (a := ⟨w.heap.size, 1 + i, none⟩) (by have := HGF.out; show FB ≠ w.heap.size; omega) _, HBA.out.setCell (p := ⟨w.heap.size, 1 + i, none⟩) (Nat.le_refl _) _⟩, by first | exact up_end HLT.out HWI.out | (have hh := HLT.out; simp [intOf]; omega)⟩
        · obtain rfl : i = 3 := by omega
          have hx4 := HXR.out
          have x4 : wr.cell? ⟨w.heap.size, 4, none⟩ = some (.string TXS) := hx4.cell (j := 4) rfl
          obtain ⟨er, F, pacc, hup⟩ : ∃ er F pacc, unpackP tx = (er, F, pacc) := ⟨_, _, _, rfl⟩
          have HUP := Lib.hid hup
          have KU : Hid (∀ W, Calls Tryz.prog 37 #[.string TXS] W fun e w' => (∃ PA pcap, e = .returned (.tuple #[.agg #[.int .i64 (F : Nat), .slice PA pacc.length pcap], .int .i64 er])) ∧ Below W.heap.size W w') := Lib.hid fun W => by
            have k := unpack_any tx (by have := HTL.out; omega) W
            unfold UnpackOut at k
            rw [hup, show str tx = TXS from HTEX.out] at k
            refine Calls.mono (show Calls Tryz.prog 37 #[.string TXS] W _ from k) ?_
            rintro e w' ⟨⟨PA, pcap, h1, _, _⟩, hb⟩
            exact ⟨⟨PA, pcap, h1⟩, hb⟩
          clear hup hlt hi hn hx4
          go_upto_region 26 with (go_at_call 37; refine (KU.out _).mono ?_; rintro _ w12 ⟨⟨PA, pcap, rfl⟩, hb12⟩; have HX12 := Lib.hid (HXR.out.keep hb12); have HB12 := Lib.hid (grow_to HBR.out hb12); clear hb12)
          have HX13 : Hid (Cells (w12.alloc (.cells #[.int .i64 (F : Nat), .slice PA pacc.length pcap] 71)) w.heap.size 34 #[.int .i64 (k : Int), .int .i64 (asgN k NL 0), .int .i64 (asgN k NL 1), .int .i64 (asgN k NL 2), .string TXS]) := Lib.hid (HX12.out.alloc (.cells #[.int .i64 (F : Nat), .slice PA pacc.length pcap] 71))
          have HB13 := Lib.hid (HB12.out.alloc HB12.out.size (.cells #[.int .i64 (F : Nat), .slice PA pacc.length pcap] 71))
          clear KU HXR HBR HX12 HB12 x4 HPR HFR HNR
          generalize w12.alloc (.cells #[.int .i64 (F : Nat), .slice PA pacc.length pcap] 71) = w13 at *
          generalize w12.heap.size = PB2 at *
          have hst : ∀ y : BW w13, ((((y.val.setCell ⟨w.heap.size, 0, none⟩ (.int .i64 (k : Int))).setCell ⟨w.heap.size, 1, none⟩ (.int .i64 (asgN k NL 0))).setCell ⟨w.heap.size, 2, none⟩ (.int .i64 (asgN k NL 1))).setCell ⟨w.heap.size, 3, none⟩ (.int .i64 (asgN k NL 2))).setCell ⟨w.heap.size, 4, none⟩ (.string TXS) = y.val := fun y => set5_same (HX13.out.keep y.below)
          have x0 : ∀ y : BW w13, y.val.cell? ⟨w.heap.size, 0, none⟩ = some (.int .i64 (k : Int)) := fun y => y.cell (HX13.out.cell (j := 0) rfl)
          have x1 : ∀ y : BW w13, y.val.cell? ⟨w.heap.size, 1, none⟩ = some (.int .i64 (asgN k NL 0)) := fun y => y.cell (HX13.out.cell (j := 1) rfl)
          have x2 : ∀ y : BW w13, y.val.cell? ⟨w.heap.size, 2, none⟩ = some (.int .i64 (asgN k NL 1)) := fun y => y.cell (HX13.out.cell (j := 2) rfl)
          have x3 : ∀ y : BW w13, y.val.cell? ⟨w.heap.size, 3, none⟩ = some (.int .i64 (asgN k NL 2)) := fun y => y.cell (HX13.out.cell (j := 3) rfl)
          have x4 : ∀ y : BW w13, y.val.cell? ⟨w.heap.size, 4, none⟩ = some (.string TXS) := fun y => y.cell (HX13.out.cell (j := 4) rfl)
          have xz0 : ∀ y : BW w13, y.val.frozen? ⟨w.heap.size, 0, none⟩ = false := fun y => y.frozen HX13.out 0
          have xz1 : ∀ y : BW w13, y.val.frozen? ⟨w.heap.size, 1, none⟩ = false := fun y => y.frozen HX13.out 1
          have xz2 : ∀ y : BW w13, y.val.frozen? ⟨w.heap.size, 2, none⟩ = false := fun y => y.frozen HX13.out 2
          have xz3 : ∀ y : BW w13, y.val.frozen? ⟨w.heap.size, 3, none⟩ = false := fun y => y.frozen HX13.out 3
          have xz4 : ∀ y : BW w13, y.val.frozen? ⟨w.heap.size, 4, none⟩ = false := fun y => y.frozen HX13.out 4
          have HSTR : Hid ((Stp.mk k (asgN k NL 0) (asgN k NL 1) (asgN k NL 2) tx).str = TXS) := Lib.hid HTEX.out
          have HMK : Hid (mkStp k NL tx = Stp.mk k (asgN k NL 0) (asgN k NL 1) (asgN k NL 2) tx) := Lib.hid (mk_text fun h => HTF.out h)
          have HKL : Hid (AL = true → ∀ y : BW w13, Calls Tryz.prog 19 #[.agg #[.int .i64 (k : Int), .int .i64 (asgN k NL 0), .int .i64 (asgN k NL 1), .int .i64 (asgN k NL 2), .string TXS]] y.val fun e w' => e = .returned (.string (strOf (mkStp k NL tx).line)) ∧ Below y.val.heap.size y.val w') := Lib.hid fun hal y => by
            have h := sline_any (mkStp k NL tx) (mk_wf HK1.out HK.out (numsZ_w64 _ _ (HNUM.out.1 hal))) (by rw [HMK.out]; exact HTL.out) y.val (HA.out _ (grow_to HB13.out y.below))
            rw [HMK.out] at h ⊢
            rw [show strOf (Stp.mk k (asgN k NL 0) (asgN k NL 1) (asgN k NL 2) tx).text = TXS from HTEX.out] at h
            exact h
          have HGOOD : Hid (AL = true → RD = if (mkStp k NL tx).line = s ∧ ¬ (mkStp k NL tx).isProg then some (mkStp k NL tx) else none) := Lib.hid fun h1  => by
            rw [HRD.out]
            exact readsP_all HWS.out (by rw [HNQW.out]; exact HNUM.out.1 h1) (HTT.out )
          have HBAD : Hid (AL = false → RD = none) := Lib.hid fun h1 => by
            rw [HRD.out]
            exact readsP_num (by rw [HWS.out, List.tail_cons, HNQW.out]; exact HNUM.out.2 h1)
          have HPRG : Hid ((mkStp k NL tx).isProg ↔ k = 1 ∧ er = 0) := Lib.hid (by
            rw [HMK.out]
            unfold Stp.isProg
            rw [show (Stp.mk k (asgN k NL 0) (asgN k NL 1) (asgN k NL 2) tx).text = tx from rfl, HUP.out]
            show (k : Int) = 1 ∧ er = 0 ↔ _
            omega)
          obtain ⟨XM, hXM⟩ : ∃ XM, mkStp k NL tx = XM := ⟨_, rfl⟩
          rw [hXM] at HKL HGOOD HPRG HMK
          generalize Stp.mk k (asgN k NL 0) (asgN k NL 1) (asgN k NL 2) tx = XV at *
          have HVAL : Hid (∀ b, (Value.tuple #[.agg #[.int .i64 (k : Int), .int .i64 (asgN k NL 0), .int .i64 (asgN k NL 1), .int .i64 (asgN k NL 2), .string TXS], .bool b]) = .tuple #[XV.val, .bool b]) := Lib.hid fun b => by
            rw [← HMK.out, ← hXM, mk_text fun h => HTF.out h]
            show _ = Value.tuple #[.agg #[_, _, _, _, .string (strOf tx)], _]
            rw [show strOf tx = TXS from HTEX.out]
          clear hXM
          generalize asgN k NL 0 = a0 at *
          generalize asgN k NL 1 = a1 at *
          generalize asgN k NL 2 = a2 at *
          generalize (0 : Nat) + 3 = dead at *
          cases AL with
          | false =>
            have HN : Hid (RD = none) := Lib.hid (HBAD.out rfl)
            refine wp_region_bw (w := w13) (by kernel_rfl) (by kernel_rfl) ?_
            repeat (refine wpQuiet_step (fun K hK => ?_); go_simp; first | (refine hK _ ?_; clear hK K) | (apply Exists.intro; refine ⟨fun _ => ?_, hK _ ?_⟩; (fail); clear hK K))
            refine wpQuiet_nil ?_
            intro yq
            have HX14 := Lib.hid (HX13.out.keep yq.below)
            have HB14 := Lib.hid (grow_to HB13.out yq.below)
            generalize yq.val = w14 at *
            go_wp2
            exact ret_step2 rfl rfl rfl HX14.out rfl ⟨⟨XV, (by rw [HN.out]; exact congrArg Ending.returned (HVAL.out _)), fun y hy => (by rw [HN.out] at hy; cases hy)⟩, HB14.out⟩
          | true =>
            have hkl := HKL.out rfl
            by_cases hl : XM.line = s
            · have KL : Hid (∀ y : BW w13, Calls Tryz.prog 19 #[.agg #[.int .i64 (k : Int), .int .i64 a0, .int .i64 a1, .int .i64 a2, .string TXS]] y.val fun e w' => e = .returned (.string S0) ∧ Below y.val.heap.size y.val w') := Lib.hid fun y => by
                have h := hkl y
                rw [hl, HS0.out] at h
                exact h
              clear hkl
              by_cases hk1 : k = 1
              · have tk : ((k : Int) == 1) = true := by rw [beq_iff_eq]; omega
                have tk2 : ((k : Int) = 1) = True := eq_true (by omega)
                have HKE := Lib.hid hk1
                clear hk1
                by_cases he : er = 0
                · have te : (er == 0) = true := by rw [beq_iff_eq]; exact he
                  have te2 : (er = 0) = True := eq_true he
                  have HEE := Lib.hid he
                  clear he
                  have HBOOL : Hid ((((k : Int) != 1) || (er != 0)) = false) := Lib.hid (by unfold bne; rw [tk, te]; rfl)
                  have HN : Hid (RD = none) := Lib.hid ((HGOOD.out rfl).trans (if_neg fun h => h.2 (HPRG.out.2 ⟨HKE.out, HEE.out⟩)))
                  refine wp_region_bw (w := w13) (by kernel_rfl) (by kernel_rfl) ?_
                  repeat (refine wpQuiet_step (fun K hK => ?_); go_simp; first | (refine hK _ ?_; clear hK K) | (apply Exists.intro; refine ⟨fun _ => ?_, hK _ ?_⟩; (go_at_call 19; with_reducible exact Calls.quiet_bw (KL.out _)); clear hK K))
                  refine wpQuiet_nil ?_
                  intro yq
                  have HX14 := Lib.hid (HX13.out.keep yq.below)
                  have HB14 := Lib.hid (grow_to HB13.out yq.below)
                  generalize yq.val = w14 at *
                  go_wp2
                  exact ret_step2 rfl rfl rfl HX14.out rfl ⟨⟨XV, (by rw [HN.out]; show Ending.returned (Value.tuple #[_, Value.bool (((k : Int) != 1) || (er != 0))]) = _; rw [HBOOL.out]; exact congrArg Ending.returned (HVAL.out _)), fun y hy => (by rw [HN.out] at hy; cases hy)⟩, HB14.out⟩
                · have te : (er == 0) = false := by rw [beq_eq_false_iff_ne]; exact he
                  have te2 : (er = 0) = False := eq_false he
                  have HEE := Lib.hid he
                  clear he
                  have HBOOL : Hid ((((k : Int) != 1) || (er != 0)) = true) := Lib.hid (by unfold bne; rw [tk, te]; rfl)
                  have HN : Hid (RD = some XV) := Lib.hid (((HGOOD.out rfl).trans (if_pos ⟨hl, fun h => HEE.out (HPRG.out.1 h).2⟩)).trans (by rw [HMK.out]))
                  refine wp_region_bw (w := w13) (by kernel_rfl) (by kernel_rfl) ?_
                  repeat (refine wpQuiet_step (fun K hK => ?_); go_simp; first | (refine hK _ ?_; clear hK K) | (apply Exists.intro; refine ⟨fun _ => ?_, hK _ ?_⟩; (go_at_call 19; with_reducible exact Calls.quiet_bw (KL.out _)); clear hK K))
                  refine wpQuiet_nil ?_
                  intro yq
                  have HX14 := Lib.hid (HX13.out.keep yq.below)
                  have HB14 := Lib.hid (grow_to HB13.out yq.below)
                  generalize yq.val = w14 at *
                  go_wp2
                  exact ret_step2 rfl rfl rfl HX14.out rfl ⟨⟨XV, (by rw [HN.out]; show Ending.returned (Value.tuple #[_, Value.bool (((k : Int) != 1) || (er != 0))]) = _; rw [HBOOL.out]; exact congrArg Ending.returned (HVAL.out _)), fun y hy => (by rw [HN.out] at hy; injection hy)⟩, HB14.out⟩
              · have tk : ((k : Int) == 1) = false := by rw [beq_eq_false_iff_ne]; omega
                have tk2 : ((k : Int) = 1) = False := eq_false (by omega)
                have HKE := Lib.hid hk1
                clear hk1
                have HN : Hid (RD = some XV) := Lib.hid (((HGOOD.out rfl).trans (if_pos ⟨hl, fun h => HKE.out (HPRG.out.1 h).1⟩)).trans (by rw [HMK.out]))
                refine wp_region_bw (w := w13) (by kernel_rfl) (by kernel_rfl) ?_
                repeat (refine wpQuiet_step (fun K hK => ?_); go_simp; first | (refine hK _ ?_; clear hK K) | (apply Exists.intro; refine ⟨fun _ => ?_, hK _ ?_⟩; (go_at_call 19; with_reducible exact Calls.quiet_bw (KL.out _)); clear hK K))
                refine wpQuiet_nil ?_
                intro yq
                have HX14 := Lib.hid (HX13.out.keep yq.below)
                have HB14 := Lib.hid (grow_to HB13.out yq.below)
                generalize yq.val = w14 at *
                go_wp2
                exact ret_step2 rfl rfl rfl HX14.out rfl ⟨⟨XV, (by rw [HN.out]; exact congrArg Ending.returned (HVAL.out _)), fun y hy => (by rw [HN.out] at hy; injection hy)⟩, HB14.out⟩
            · obtain ⟨LS, hLS⟩ : ∃ LS, strOf XM.line = LS := ⟨_, rfl⟩
              rw [hLS] at hkl
              have KL := Lib.hid hkl
              have td : (LS.toList == S0.toList) = false := by rw [← hLS, ← HS0.out, str_toList, str_toList, beq_eq_false_iff_ne]; exact hl
              clear hkl hLS
              have HN : Hid (RD = none) := Lib.hid ((HGOOD.out rfl).trans (if_neg fun h => hl h.1))
              refine wp_region_bw (w := w13) (by kernel_rfl) (by kernel_rfl) ?_
              repeat (refine wpQuiet_step (fun K hK => ?_); go_simp; first | (refine hK _ ?_; clear hK K) | (apply Exists.intro; refine ⟨fun _ => ?_, hK _ ?_⟩; (go_at_call 19; with_reducible exact Calls.quiet_bw (KL.out _)); clear hK K))
              refine wpQuiet_nil ?_
              intro yq
              have HX14 := Lib.hid (HX13.out.keep yq.below)
              have HB14 := Lib.hid (grow_to HB13.out yq.below)
              generalize yq.val = w14 at *
              go_wp2
              exact ret_step2 rfl rfl rfl HX14.out rfl ⟨⟨XV, (by rw [HN.out]; exact congrArg Ending.returned (HVAL.out _)), fun y hy => (by rw [HN.out] at hy; cases hy)⟩, HB14.out⟩
    | true =>
      by_cases hm0 : m = 0
      · have HNO : Hid (RD = none) := Lib.hid (by
          rw [HRD.out]
          exact readsP_empty (w0 := w0) (by rw [HWS.out, List.length_eq_zero_iff.1 (HM.out.trans hm0)]) HFT.out)
        subst hm0
        have x0 : w7.cell? ⟨w.heap.size, 0, none⟩ = some (.int .i64 (k : Int)) := HX7.out.cell (j := 0) rfl
        have x1 : w7.cell? ⟨w.heap.size, 1, none⟩ = some (.int .i64 0) := HX7.out.cell (j := 1) rfl
        have x2 : w7.cell? ⟨w.heap.size, 2, none⟩ = some (.int .i64 0) := HX7.out.cell (j := 2) rfl
        have x3 : w7.cell? ⟨w.heap.size, 3, none⟩ = some (.int .i64 0) := HX7.out.cell (j := 3) rfl
        have x4 : w7.cell? ⟨w.heap.size, 4, none⟩ = some (.string ⟨#[]⟩) := HX7.out.cell (j := 4) rfl
        have xz0 := HX7.out.fz 0
        have xz1 := HX7.out.fz 1
        have xz2 := HX7.out.fz 2
        have xz3 := HX7.out.fz 3
        have xz4 := HX7.out.fz 4
        go_wp2
        exact ret_step2 rfl rfl rfl (set5_cells HX7.out) rfl ⟨⟨⟨k, 0, 0, 0, []⟩, by rw [HNO.out]; rfl, fun y hy => by rw [HNO.out] at hy; cases hy⟩, set5_below HB7.out (Nat.le_refl _)⟩
      obtain ⟨q, rfl⟩ : ∃ q, m = q + 1 := ⟨m - 1, by omega⟩
      have ho1 : o1 = 1 := HO1.out hm0
      have hm00 : (((q + 1 : Nat) : Int) == 0) = false := by rw [beq_eq_false_iff_ne]; omega
      have hlw : q < ws.length := by rw [HM.out]; exact Nat.lt_succ_self q
      obtain ⟨wl, hwl⟩ : ∃ wl, ws[q]? = some wl := ⟨ws[q]'hlw, List.getElem?_eq_getElem hlw⟩
      have HLAST : Hid (ws.getLastD [] = wl) := Lib.hid (by
        rw [List.getLastD_eq_getLast?, List.getLast?_eq_getElem?, HM.out, Nat.add_sub_cancel, hwl]; rfl)
      have c15 : w7.cell? ⟨WB, o1 + q, none⟩ = some (.string (strOf wl)) := HW7.out q wl hwl
      have hw4 := HPL.out wl (List.mem_of_getElem? hwl)
      have HWN : Hid (ws ≠ []) := Lib.hid fun h => (by rw [h] at hlw; exact absurd hlw (Nat.not_lt_zero _))
      have kraw := fun W => sraw_any wl hw4 W
      obtain ⟨TXS, hTXS⟩ : ∃ T, strOf ((rawT wl).getD []) = T := ⟨_, rfl⟩
      obtain ⟨tx, htx⟩ : ∃ t, (rawT wl).getD [] = t := ⟨_, rfl⟩
      obtain ⟨okt, hokt⟩ : ∃ b, (rawT wl).isSome = b := ⟨_, rfl⟩
      have HTEX : Hid (strOf tx = TXS) := Lib.hid (by rw [← htx]; exact hTXS)
      have HTL : Hid (tx.length ≤ 4096) := Lib.hid (by
        cases hr : rawT wl with
        | none => rw [hr] at htx; rw [← htx]; simp
        | some t => rw [hr] at htx; have := rawT_len hr; rw [← htx]; simp; omega)
      have HTF : Hid (stT (k : Int) = false → tx = []) := Lib.hid fun h => (by rw [HFT.out] at h; cases h)
      have HNQW : Hid (numW (k : Int) ws = ws.dropLast) := Lib.hid (by unfold numW; rw [HFT.out]; rfl)
      have HRAW : Hid (okt = false → RD = none) := Lib.hid fun h => by
        rw [HRD.out]
        refine readsP_raw HWS.out HFT.out ?_
        rw [HLAST.out]
        cases hr : rawT wl with
        | none => rfl
        | some t => rw [hr] at hokt; rw [← hokt] at h; cases h
      have HTT : Hid (okt = true → (stT (k : Int) = true → ws ≠ [] ∧ rawT (ws.getLastD []) = some tx) ∧ (stT (k : Int) = false → tx = [])) := Lib.hid fun h => ⟨fun _ => ⟨HWN.out, by
        rw [HLAST.out]
        cases hr : rawT wl with
        | none => rw [hr] at hokt; rw [← hokt] at h; cases h
        | some t => rw [hr] at htx; rw [← htx]; rfl⟩, HTF.out⟩
      have HLQ : Hid (ws.dropLast.length = q) := Lib.hid (by rw [List.length_dropLast, HM.out, Nat.add_sub_cancel])
      rw [hTXS, hokt] at kraw
      have KRAW := Lib.hid kraw
      have hwq : wrap64 (q : Int) = (q : Int) := by have := HNL.out; unfold wrap64; omega
      have hq1 : ((q + 1 : Nat) : Int) - 1 = (q : Int) := by omega
      have q0 : (0 : Int) ≤ (q : Int) := by omega
      have q1 : (q : Int) < (q : Int) + 1 := by omega
      have q2 : (q : Int) ≤ (q : Int) + 1 := by omega
      have q3 : (q : Int) < ((q + 1 : Nat) : Int) := by omega
      have q4 : (q : Int) ≤ ((q + 1 : Nat) : Int) := by omega
      clear kraw hTXS htx hokt hw4 hwl hlw ho1 hm0
      generalize strOf wl = WLS at *
      go_upto_region 17 with (go_at_call 53; refine (KRAW.out _).mono ?_; rintro _ w8 ⟨rfl, hb8⟩; have HX8 := Lib.hid (HX7.out.keep hb8); have HC8 := Lib.hid (HC7.out.keep hb8); have HF8 := Lib.hid (HF7.out.keep hb8); have HB8 := Lib.hid (grow_to HB7.out hb8); have HL8 := Lib.hid hb8; have x4 : w8.cell? ⟨w.heap.size, 4, none⟩ = some (.string ⟨#[]⟩) := HX8.out.cell (j := 4) rfl; have xz4 := HX8.out.fz 4; clear hb8)
      have HXN : Hid (Cells (w8.setCell ⟨w.heap.size, 4, none⟩ (.string TXS)) w.heap.size 34 #[.int .i64 (k : Int), .int .i64 0, .int .i64 0, .int .i64 0, .string TXS]) := Lib.hid (HX8.out.set 4 (.string TXS))
      have HCN := Lib.hid (HC8.out.far (a := ⟨w.heap.size, 4, none⟩) (by have := HGW.out; show WB ≠ w.heap.size; omega) (.string TXS))
      have HFN := Lib.hid (HF8.out.far (a := ⟨w.heap.size, 4, none⟩) (by have := HGF.out; show FB ≠ w.heap.size; omega) (.string TXS))
      have HBN := Lib.hid (HB8.out.setCell (p := ⟨w.heap.size, 4, none⟩) (Nat.le_refl _) (.string TXS))
      have HNW : Hid (∀ j p, ws.dropLast[j]? = some p → (w8.setCell ⟨w.heap.size, 4, none⟩ (.string TXS)).cell? ⟨WB, o1 + j, none⟩ = some (.string (strOf p))) := Lib.hid fun j p hp => by
        have h1 : ws[j]? = some p := by
          rw [List.dropLast_eq_take, List.getElem?_take] at hp
          split at hp
          · exact hp
          · cases hp
        exact (World.cell?_of_block (w := w8) (a := ⟨WB, o1 + j, none⟩) (Below.heap_setCell w8 ⟨w.heap.size, 4, none⟩ _ WB (by have := HGW.out; show WB ≠ w.heap.size; omega))).trans (cell_keeps HL8.out (HW7.out j p h1))
      clear HX8 HC8 HF8 HB8 x4 xz4 HW7 c15
      generalize w8.setCell ⟨w.heap.size, 4, none⟩ (.string TXS) = w11 at *
      have HNUML := Lib.hid (snums_any ws.dropLast (by rw [List.length_dropLast, HM.out]; have := HNL.out; omega) (fun p hp => by have := HPL.out p (List.mem_of_mem_take (by rw [← List.dropLast_eq_take]; exact hp)); omega) WB o1 (q + 1) w11 HCN.out.lt HNW.out (HA.out _ HBN.out).all)
      obtain ⟨NL, hNL⟩ : ∃ NL, (numsZ ws.dropLast).getD [] = NL := ⟨_, rfl⟩
      obtain ⟨AL, hAL⟩ : ∃ AL, (numsZ ws.dropLast).isSome = AL := ⟨_, rfl⟩
      have HNUM : Hid ((AL = true → numsZ ws.dropLast = some NL) ∧ (AL = false → numsZ ws.dropLast = none)) := Lib.hid (by
        cases hn : numsZ ws.dropLast with
        | none => rw [hn] at hAL; subst hAL; exact ⟨fun h => (by cases h), fun _ => rfl⟩
        | some l => rw [hn] at hAL hNL; subst hAL; exact ⟨fun _ => (by rw [← hNL]; rfl), fun h => (by cases h)⟩)
      have KNU : Hid (Calls Tryz.prog 50 #[.slice (some ⟨WB, o1, none⟩) q (q + 1)] w11 fun e w' => (∃ A cap2, e = .returned (.tuple #[.slice A NL.length cap2, .bool AL]) ∧ RowN w' w11.heap.size (.slice A NL.length cap2) NL) ∧ Below w11.heap.size w11 w') := Lib.hid (by
        have k := HNUML.out
        rw [hNL, hAL, HLQ.out] at k
        exact k)
      clear hNL hAL HNUML
      go_upto_region 18 with (go_at_call 50; refine KNU.out.mono ?_; rintro _ w9 ⟨⟨A, c2, rfl, hr9⟩, hb9⟩; have HX9 := Lib.hid (HXN.out.keep hb9); have HF9 := Lib.hid (HFN.out.keep hb9); have HB9 := Lib.hid (grow_to HBN.out hb9); have HN9 := Lib.hid (NumsAt.row (G := w.heap.size) hr9 HXN.out.lt); clear hr9 hb9)
      clear KNU HXN HFN HBN HCN
      go_wp2
      have HP10 := Lib.hid (Cells.new w9 89 #[.pointer (some ⟨w.heap.size, 1, none⟩), .pointer (some ⟨w.heap.size, 2, none⟩), .pointer (some ⟨w.heap.size, 3, none⟩)])
      have HX10 := Lib.hid (HX9.out.alloc (.cells #[.pointer (some ⟨w.heap.size, 1, none⟩), .pointer (some ⟨w.heap.size, 2, none⟩), .pointer (some ⟨w.heap.size, 3, none⟩)] 89))
      have HF10 := Lib.hid (HF9.out.alloc (.cells #[.pointer (some ⟨w.heap.size, 1, none⟩), .pointer (some ⟨w.heap.size, 2, none⟩), .pointer (some ⟨w.heap.size, 3, none⟩)] 89))
      have HN10 := Lib.hid (HN9.out.keep ((Below.refl w9.heap.size w9).alloc (Nat.le_refl _) (.cells #[.pointer (some ⟨w.heap.size, 1, none⟩), .pointer (some ⟨w.heap.size, 2, none⟩), .pointer (some ⟨w.heap.size, 3, none⟩)] 89)))
      have HB10 := Lib.hid (HB9.out.alloc HB9.out.size (.cells #[.pointer (some ⟨w.heap.size, 1, none⟩), .pointer (some ⟨w.heap.size, 2, none⟩), .pointer (some ⟨w.heap.size, 3, none⟩)] 89))
      have HGP : Hid (w.heap.size < w9.heap.size) := Lib.hid HX9.out.lt
      clear HX9 HF9 HN9 HB9
      generalize w9.alloc (.cells #[.pointer (some ⟨w.heap.size, 1, none⟩), .pointer (some ⟨w.heap.size, 2, none⟩), .pointer (some ⟨w.heap.size, 3, none⟩)] 89) = w10 at *
      generalize w9.heap.size = PB at *
      clear w9
      go_loopw [75, 9] (fun iv nv wx => ∃ i : Nat, i ≤ 3 ∧ iv = .int .i64 (i : Int) ∧ NumsAt wx w.heap.size nv (remN k NL i) ∧ Cells wx w.heap.size 34 (partX k NL TXS i) ∧ Cells wx PB 89 #[.pointer (some ⟨w.heap.size, 1, none⟩), .pointer (some ⟨w.heap.size, 2, none⟩), .pointer (some ⟨w.heap.size, 3, none⟩)] ∧ Cells wx FB 39 #[.string WD, .bool fa, .bool fk, .bool fx, .bool true] ∧ Below w.heap.size w wx) (fun iv _ _ => 3 - (intOf iv).toNat)
      case atStart => exact ⟨0, by omega, rfl, HN10.out, HX10.out, HP10.out, HF10.out, HB10.out⟩
      case round =>
        obtain ⟨i, hi, rfl, hn, hx, hp, hf, hb⟩ := hrel
        have HNR := Lib.hid hn
        have HXR := Lib.hid hx
        have HPR := Lib.hid hp
        have HFR := Lib.hid hf
        have HBR := Lib.hid hb
        clear hx hp hf hb HN10 HX10 HP10 HF10 HB10
        by_cases hlt : i < 3
        · obtain ⟨fb, hbv, hrem, hval⟩ := HST.out NL i hlt
          obtain ⟨A', cap', rfl, hcap, hnz⟩ := hn
          have p0 : wr.cell? ⟨PB, i, none⟩ = some (.pointer (some ⟨w.heap.size, 1 + i, none⟩)) := HPR.out.cell (ptrs_at _ i hlt)
          have f1 : wr.cell? ⟨FB, 1, none⟩ = some (.bool fa) := HFR.out.cell (j := 1) rfl
          have f2 : wr.cell? ⟨FB, 2, none⟩ = some (.bool fk) := HFR.out.cell (j := 2) rfl
          have f3 : wr.cell? ⟨FB, 3, none⟩ = some (.bool fx) := HFR.out.cell (j := 3) rfl
          have l0 : (wr.alloc (.cells #[.bool fa, .bool fk, .bool fx] 4)).cell? ⟨wr.heap.size, i, none⟩ = some (.bool fb) := (Cells.new wr 4 #[.bool fa, .bool fk, .bool fx]).cell hbv
          have HBA := Lib.hid (HBR.out.alloc HBR.out.size (.cells #[.bool fa, .bool fk, .bool fx] 4))
          have HPA := Lib.hid (HPR.out.alloc (.cells #[.bool fa, .bool fk, .bool fx] 4))
          have HFA := Lib.hid (HFR.out.alloc (.cells #[.bool fa, .bool fk, .bool fx] 4))
          have HXA := Lib.hid (HXR.out.alloc (.cells #[.bool fa, .bool fk, .bool fx] 4))
          have HNA := Lib.hid (HNR.out.keep ((Below.refl wr.heap.size wr).alloc (Nat.le_refl _) (.cells #[.bool fa, .bool fk, .bool fx] 4)))
          have i2 : (0 : Int) ≤ i := by omega
          have i3 : (i : Int) < 3 := by omega
          have hwi : wrap64 ((i : Int) + 1) = (i : Int) + 1 := by unfold wrap64; omega
          have HWI := Lib.hid hwi
          have HLT := Lib.hid hlt
          have HREM := Lib.hid hrem
          have HVAL := Lib.hid hval
          clear hbv hrem hval hwi hlt hi
          cases fb with
          | false =>
            have HR2 : Hid (remN k NL (i + 1) = remN k NL i) := Lib.hid (by rw [HREM.out]; rfl)
            have HX2 : Hid (partX k NL TXS (i + 1) = partX k NL TXS i) := Lib.hid (partX_same _ _ _ _ HLT.out (by rw [HVAL.out]; rfl))
            clear hnz hcap
            generalize (remN k NL i).length = nl at *
            go_wp2
            exact ⟨⟨i + 1, by have := HLT.out; omega, by first | exact up_val HWI.out | rfl, by rw [HR2.out]; exact HNA.out, by rw [HX2.out]; exact HXA.out, HPA.out, HFA.out, HBA.out⟩, by first | exact up_end HLT.out HWI.out | (have hh := HLT.out; simp [intOf]; omega)⟩
          | true =>
            cases hr : remN k NL i with
            | nil =>
              have HR2 : Hid (remN k NL (i + 1) = []) := Lib.hid (by rw [HREM.out, hr]; rfl)
              have HX2 : Hid (partX k NL TXS (i + 1) = partX k NL TXS i) := Lib.hid (partX_same _ _ _ _ HLT.out (by rw [HVAL.out, hr]; rfl))
              rw [hr] at HNA
              clear hnz hcap
              simp only [List.length_nil] at HNA ⊢
              go_wp2
              exact ⟨⟨i + 1, by have := HLT.out; omega, by first | exact up_val HWI.out | rfl, by rw [HR2.out]; exact HNA.out, by rw [HX2.out]; exact HXA.out, HPA.out, HFA.out, HBA.out⟩, by first | exact up_end HLT.out HWI.out | (have hh := HLT.out; simp [intOf]; omega)⟩
            | cons v r =>
              have HR2 : Hid (remN k NL (i + 1) = r) := Lib.hid (by rw [HREM.out, hr]; rfl)
              have HV2 : Hid (asgN k NL i = v) := Lib.hid (by rw [HVAL.out, hr]; rfl)
              rw [hr] at hnz hcap HNA
              obtain ⟨g, off, rfl, hg1, hg2, hgc⟩ := hnz (by simp)
              have n0 : (wr.alloc (.cells #[.bool fa, .bool fk, .bool fx] 4)).cell? ⟨g, off, none⟩ = some (.int .i64 v) := cell_keeps ((Below.refl wr.heap.size wr).alloc (Nat.le_refl _) (.cells #[.bool fa, .bool fk, .bool fx] 4)) (by have := hgc 0 v rfl; rwa [Nat.add_zero] at this)
              obtain ⟨ov, hov⟩ := partX_at k NL TXS i HLT.out
              have x0 : (wr.alloc (.cells #[.bool fa, .bool fk, .bool fx] 4)).cell? ⟨w.heap.size, 1 + i, none⟩ = some ov := HXA.out.cell hov
              have xz : (wr.alloc (.cells #[.bool fa, .bool fk, .bool fx] 4)).frozen? ⟨w.heap.size, 1 + i, none⟩ = false := HXA.out.fz (1 + i)
              have HCUT := Lib.hid (HNA.out.cut)
              have HXS : Hid (Cells ((wr.alloc (.cells #[.bool fa, .bool fk, .bool fx] 4)).setCell ⟨w.heap.size, 1 + i, none⟩ (.int .i64 v)) w.heap.size 34 (partX k NL TXS (i + 1))) := Lib.hid (by
                have h := HXA.out.set (1 + i) (.int .i64 (asgN k NL i))
                rw [partX_set _ _ _ _ HLT.out, HV2.out] at h
                exact h)
              have r1 : (1 : Int) ≤ ((r.length + 1 : Nat) : Int) := by omega
              have r2 : (0 : Int) < ((r.length + 1 : Nat) : Int) := by omega
              have r3 : r.length + 1 ≤ cap' := by simpa using hcap
              have r4 : ((r.length + 1 : Nat) : Int) ≤ (cap' : Int) := by omega
              clear hov hnz hcap hgc hg1 hg2
              simp only [List.length_cons] at HNA HCUT ⊢
              go_wp2
              exact ⟨⟨i + 1, by have := HLT.out; omega, by first | exact up_val HWI.out | rfl, by rw [HR2.out]; exact HCUT.out.set, HXS.out, HPA.out.far (a := ⟨w.heap.size, 1 + i, none⟩) (by have := HGP.out; show PB ≠ w.heap.size; omega) _, HFA.out.far (a := ⟨w.heap.size, 1 + i, none⟩) (by have := HGF.out; show FB ≠ w.heap.size; omega) _, HBA.out.setCell (p := ⟨w.heap.size, 1 + i, none⟩) (Nat.le_refl _) _⟩, by first | exact up_end HLT.out HWI.out | (have hh := HLT.out; simp [intOf]; omega)⟩
        · obtain rfl : i = 3 := by omega
          have hx4 := HXR.out
          have x4 : wr.cell? ⟨w.heap.size, 4, none⟩ = some (.string TXS) := hx4.cell (j := 4) rfl
          obtain ⟨er, F, pacc, hup⟩ : ∃ er F pacc, unpackP tx = (er, F, pacc) := ⟨_, _, _, rfl⟩
          have HUP := Lib.hid hup
          have KU : Hid (∀ W, Calls Tryz.prog 37 #[.string TXS] W fun e w' => (∃ PA pcap, e = .returned (.tuple #[.agg #[.int .i64 (F : Nat), .slice PA pacc.length pcap], .int .i64 er])) ∧ Below W.heap.size W w') := Lib.hid fun W => by
            have k := unpack_any tx (by have := HTL.out; omega) W
            unfold UnpackOut at k
            rw [hup, show str tx = TXS from HTEX.out] at k
            refine Calls.mono (show Calls Tryz.prog 37 #[.string TXS] W _ from k) ?_
            rintro e w' ⟨⟨PA, pcap, h1, _, _⟩, hb⟩
            exact ⟨⟨PA, pcap, h1⟩, hb⟩
          clear hup hlt hi hn hx4
          go_upto_region 26 with (go_at_call 37; refine (KU.out _).mono ?_; rintro _ w12 ⟨⟨PA, pcap, rfl⟩, hb12⟩; have HX12 := Lib.hid (HXR.out.keep hb12); have HB12 := Lib.hid (grow_to HBR.out hb12); clear hb12)
          have HX13 : Hid (Cells (w12.alloc (.cells #[.int .i64 (F : Nat), .slice PA pacc.length pcap] 71)) w.heap.size 34 #[.int .i64 (k : Int), .int .i64 (asgN k NL 0), .int .i64 (asgN k NL 1), .int .i64 (asgN k NL 2), .string TXS]) := Lib.hid (HX12.out.alloc (.cells #[.int .i64 (F : Nat), .slice PA pacc.length pcap] 71))
          have HB13 := Lib.hid (HB12.out.alloc HB12.out.size (.cells #[.int .i64 (F : Nat), .slice PA pacc.length pcap] 71))
          clear KU HXR HBR HX12 HB12 x4 HPR HFR HNR
          generalize w12.alloc (.cells #[.int .i64 (F : Nat), .slice PA pacc.length pcap] 71) = w13 at *
          generalize w12.heap.size = PB2 at *
          have hst : ∀ y : BW w13, ((((y.val.setCell ⟨w.heap.size, 0, none⟩ (.int .i64 (k : Int))).setCell ⟨w.heap.size, 1, none⟩ (.int .i64 (asgN k NL 0))).setCell ⟨w.heap.size, 2, none⟩ (.int .i64 (asgN k NL 1))).setCell ⟨w.heap.size, 3, none⟩ (.int .i64 (asgN k NL 2))).setCell ⟨w.heap.size, 4, none⟩ (.string TXS) = y.val := fun y => set5_same (HX13.out.keep y.below)
          have x0 : ∀ y : BW w13, y.val.cell? ⟨w.heap.size, 0, none⟩ = some (.int .i64 (k : Int)) := fun y => y.cell (HX13.out.cell (j := 0) rfl)
          have x1 : ∀ y : BW w13, y.val.cell? ⟨w.heap.size, 1, none⟩ = some (.int .i64 (asgN k NL 0)) := fun y => y.cell (HX13.out.cell (j := 1) rfl)
          have x2 : ∀ y : BW w13, y.val.cell? ⟨w.heap.size, 2, none⟩ = some (.int .i64 (asgN k NL 1)) := fun y => y.cell (HX13.out.cell (j := 2) rfl)
          have x3 : ∀ y : BW w13, y.val.cell? ⟨w.heap.size, 3, none⟩ = some (.int .i64 (asgN k NL 2)) := fun y => y.cell (HX13.out.cell (j := 3) rfl)
          have x4 : ∀ y : BW w13, y.val.cell? ⟨w.heap.size, 4, none⟩ = some (.string TXS) := fun y => y.cell (HX13.out.cell (j := 4) rfl)
          have xz0 : ∀ y : BW w13, y.val.frozen? ⟨w.heap.size, 0, none⟩ = false := fun y => y.frozen HX13.out 0
          have xz1 : ∀ y : BW w13, y.val.frozen? ⟨w.heap.size, 1, none⟩ = false := fun y => y.frozen HX13.out 1
          have xz2 : ∀ y : BW w13, y.val.frozen? ⟨w.heap.size, 2, none⟩ = false := fun y => y.frozen HX13.out 2
          have xz3 : ∀ y : BW w13, y.val.frozen? ⟨w.heap.size, 3, none⟩ = false := fun y => y.frozen HX13.out 3
          have xz4 : ∀ y : BW w13, y.val.frozen? ⟨w.heap.size, 4, none⟩ = false := fun y => y.frozen HX13.out 4
          have HSTR : Hid ((Stp.mk k (asgN k NL 0) (asgN k NL 1) (asgN k NL 2) tx).str = TXS) := Lib.hid HTEX.out
          have HMK : Hid (mkStp k NL tx = Stp.mk k (asgN k NL 0) (asgN k NL 1) (asgN k NL 2) tx) := Lib.hid (mk_text fun h => HTF.out h)
          have HKL : Hid (AL = true → ∀ y : BW w13, Calls Tryz.prog 19 #[.agg #[.int .i64 (k : Int), .int .i64 (asgN k NL 0), .int .i64 (asgN k NL 1), .int .i64 (asgN k NL 2), .string TXS]] y.val fun e w' => e = .returned (.string (strOf (mkStp k NL tx).line)) ∧ Below y.val.heap.size y.val w') := Lib.hid fun hal y => by
            have h := sline_any (mkStp k NL tx) (mk_wf HK1.out HK.out (numsZ_w64 _ _ (HNUM.out.1 hal))) (by rw [HMK.out]; exact HTL.out) y.val (HA.out _ (grow_to HB13.out y.below))
            rw [HMK.out] at h ⊢
            rw [show strOf (Stp.mk k (asgN k NL 0) (asgN k NL 1) (asgN k NL 2) tx).text = TXS from HTEX.out] at h
            exact h
          have HGOOD : Hid (AL = true → okt = true → RD = if (mkStp k NL tx).line = s ∧ ¬ (mkStp k NL tx).isProg then some (mkStp k NL tx) else none) := Lib.hid fun h1 h2 => by
            rw [HRD.out]
            exact readsP_all HWS.out (by rw [HNQW.out]; exact HNUM.out.1 h1) (HTT.out h2)
          have HBAD : Hid (AL = false → RD = none) := Lib.hid fun h1 => by
            rw [HRD.out]
            exact readsP_num (by rw [HWS.out, List.tail_cons, HNQW.out]; exact HNUM.out.2 h1)
          have HPRG : Hid ((mkStp k NL tx).isProg ↔ k = 1 ∧ er = 0) := Lib.hid (by
            rw [HMK.out]
            unfold Stp.isProg
            rw [show (Stp.mk k (asgN k NL 0) (asgN k NL 1) (asgN k NL 2) tx).text = tx from rfl, HUP.out]
            show (k : Int) = 1 ∧ er = 0 ↔ _
            omega)
          obtain ⟨XM, hXM⟩ : ∃ XM, mkStp k NL tx = XM := ⟨_, rfl⟩
          rw [hXM] at HKL HGOOD HPRG HMK
          generalize Stp.mk k (asgN k NL 0) (asgN k NL 1) (asgN k NL 2) tx = XV at *
          have HVAL : Hid (∀ b, (Value.tuple #[.agg #[.int .i64 (k : Int), .int .i64 (asgN k NL 0), .int .i64 (asgN k NL 1), .int .i64 (asgN k NL 2), .string TXS], .bool b]) = .tuple #[XV.val, .bool b]) := Lib.hid fun b => by
            rw [← HMK.out, ← hXM, mk_text fun h => HTF.out h]
            show _ = Value.tuple #[.agg #[_, _, _, _, .string (strOf tx)], _]
            rw [show strOf tx = TXS from HTEX.out]
          clear hXM
          generalize asgN k NL 0 = a0 at *
          generalize asgN k NL 1 = a1 at *
          generalize asgN k NL 2 = a2 at *
          generalize (0 : Nat) + 3 = dead at *
          cases AL with
          | false =>
            cases okt with
            | false => 
              have HN : Hid (RD = none) := Lib.hid (HBAD.out rfl)
              refine wp_region_bw (w := w13) (by kernel_rfl) (by kernel_rfl) ?_
              repeat (refine wpQuiet_step (fun K hK => ?_); go_simp; first | (refine hK _ ?_; clear hK K) | (apply Exists.intro; refine ⟨fun _ => ?_, hK _ ?_⟩; (fail); clear hK K))
              refine wpQuiet_nil ?_
              intro yq
              have HX14 := Lib.hid (HX13.out.keep yq.below)
              have HB14 := Lib.hid (grow_to HB13.out yq.below)
              generalize yq.val = w14 at *
              go_wp2
              exact ret_step2 rfl rfl rfl HX14.out rfl ⟨⟨XV, (by rw [HN.out]; exact congrArg Ending.returned (HVAL.out _)), fun y hy => (by rw [HN.out] at hy; cases hy)⟩, HB14.out⟩
            | true => 
              have HN : Hid (RD = none) := Lib.hid (HBAD.out rfl)
              refine wp_region_bw (w := w13) (by kernel_rfl) (by kernel_rfl) ?_
              repeat (refine wpQuiet_step (fun K hK => ?_); go_simp; first | (refine hK _ ?_; clear hK K) | (apply Exists.intro; refine ⟨fun _ => ?_, hK _ ?_⟩; (fail); clear hK K))
              refine wpQuiet_nil ?_
              intro yq
              have HX14 := Lib.hid (HX13.out.keep yq.below)
              have HB14 := Lib.hid (grow_to HB13.out yq.below)
              generalize yq.val = w14 at *
              go_wp2
              exact ret_step2 rfl rfl rfl HX14.out rfl ⟨⟨XV, (by rw [HN.out]; exact congrArg Ending.returned (HVAL.out _)), fun y hy => (by rw [HN.out] at hy; cases hy)⟩, HB14.out⟩
          | true =>
            cases okt with
            | false => 
              have HN : Hid (RD = none) := Lib.hid (HRAW.out rfl)
              refine wp_region_bw (w := w13) (by kernel_rfl) (by kernel_rfl) ?_
              repeat (refine wpQuiet_step (fun K hK => ?_); go_simp; first | (refine hK _ ?_; clear hK K) | (apply Exists.intro; refine ⟨fun _ => ?_, hK _ ?_⟩; (fail); clear hK K))
              refine wpQuiet_nil ?_
              intro yq
              have HX14 := Lib.hid (HX13.out.keep yq.below)
              have HB14 := Lib.hid (grow_to HB13.out yq.below)
              generalize yq.val = w14 at *
              go_wp2
              exact ret_step2 rfl rfl rfl HX14.out rfl ⟨⟨XV, (by rw [HN.out]; exact congrArg Ending.returned (HVAL.out _)), fun y hy => (by rw [HN.out] at hy; cases hy)⟩, HB14.out⟩
            | true =>
              have hkl := HKL.out rfl
              by_cases hl : XM.line = s
              · have KL : Hid (∀ y : BW w13, Calls Tryz.prog 19 #[.agg #[.int .i64 (k : Int), .int .i64 a0, .int .i64 a1, .int .i64 a2, .string TXS]] y.val fun e w' => e = .returned (.string S0) ∧ Below y.val.heap.size y.val w') := Lib.hid fun y => by
                  have h := hkl y
                  rw [hl, HS0.out] at h
                  exact h
                clear hkl
                by_cases hk1 : k = 1
                · have tk : ((k : Int) == 1) = true := by rw [beq_iff_eq]; omega
                  have tk2 : ((k : Int) = 1) = True := eq_true (by omega)
                  have HKE := Lib.hid hk1
                  clear hk1
                  by_cases he : er = 0
                  · have te : (er == 0) = true := by rw [beq_iff_eq]; exact he
                    have te2 : (er = 0) = True := eq_true he
                    have HEE := Lib.hid he
                    clear he
                    have HBOOL : Hid ((((k : Int) != 1) || (er != 0)) = false) := Lib.hid (by unfold bne; rw [tk, te]; rfl)
                    have HN : Hid (RD = none) := Lib.hid ((HGOOD.out rfl rfl).trans (if_neg fun h => h.2 (HPRG.out.2 ⟨HKE.out, HEE.out⟩)))
                    refine wp_region_bw (w := w13) (by kernel_rfl) (by kernel_rfl) ?_
                    repeat (refine wpQuiet_step (fun K hK => ?_); go_simp; first | (refine hK _ ?_; clear hK K) | (apply Exists.intro; refine ⟨fun _ => ?_, hK _ ?_⟩; (go_at_call 19; with_reducible exact Calls.quiet_bw (KL.out _)); clear hK K))
                    refine wpQuiet_nil ?_
                    intro yq
                    have HX14 := Lib.hid (HX13.out.keep yq.below)
                    have HB14 := Lib.hid (grow_to HB13.out yq.below)
                    generalize yq.val = w14 at *
                    go_wp2
                    exact ret_step2 rfl rfl rfl HX14.out rfl ⟨⟨XV, (by rw [HN.out]; show Ending.returned (Value.tuple #[_, Value.bool (((k : Int) != 1) || (er != 0))]) = _; rw [HBOOL.out]; exact congrArg Ending.returned (HVAL.out _)), fun y hy => (by rw [HN.out] at hy; cases hy)⟩, HB14.out⟩
                  · have te : (er == 0) = false := by rw [beq_eq_false_iff_ne]; exact he
                    have te2 : (er = 0) = False := eq_false he
                    have HEE := Lib.hid he
                    clear he
                    have HBOOL : Hid ((((k : Int) != 1) || (er != 0)) = true) := Lib.hid (by unfold bne; rw [tk, te]; rfl)
                    have HN : Hid (RD = some XV) := Lib.hid (((HGOOD.out rfl rfl).trans (if_pos ⟨hl, fun h => HEE.out (HPRG.out.1 h).2⟩)).trans (by rw [HMK.out]))
                    refine wp_region_bw (w := w13) (by kernel_rfl) (by kernel_rfl) ?_
                    repeat (refine wpQuiet_step (fun K hK => ?_); go_simp; first | (refine hK _ ?_; clear hK K) | (apply Exists.intro; refine ⟨fun _ => ?_, hK _ ?_⟩; (go_at_call 19; with_reducible exact Calls.quiet_bw (KL.out _)); clear hK K))
                    refine wpQuiet_nil ?_
                    intro yq
                    have HX14 := Lib.hid (HX13.out.keep yq.below)
                    have HB14 := Lib.hid (grow_to HB13.out yq.below)
                    generalize yq.val = w14 at *
                    go_wp2
                    exact ret_step2 rfl rfl rfl HX14.out rfl ⟨⟨XV, (by rw [HN.out]; show Ending.returned (Value.tuple #[_, Value.bool (((k : Int) != 1) || (er != 0))]) = _; rw [HBOOL.out]; exact congrArg Ending.returned (HVAL.out _)), fun y hy => (by rw [HN.out] at hy; injection hy)⟩, HB14.out⟩
                · have tk : ((k : Int) == 1) = false := by rw [beq_eq_false_iff_ne]; omega
                  have tk2 : ((k : Int) = 1) = False := eq_false (by omega)
                  have HKE := Lib.hid hk1
                  clear hk1
                  have HN : Hid (RD = some XV) := Lib.hid (((HGOOD.out rfl rfl).trans (if_pos ⟨hl, fun h => HKE.out (HPRG.out.1 h).1⟩)).trans (by rw [HMK.out]))
                  refine wp_region_bw (w := w13) (by kernel_rfl) (by kernel_rfl) ?_
                  repeat (refine wpQuiet_step (fun K hK => ?_); go_simp; first | (refine hK _ ?_; clear hK K) | (apply Exists.intro; refine ⟨fun _ => ?_, hK _ ?_⟩; (go_at_call 19; with_reducible exact Calls.quiet_bw (KL.out _)); clear hK K))
                  refine wpQuiet_nil ?_
                  intro yq
                  have HX14 := Lib.hid (HX13.out.keep yq.below)
                  have HB14 := Lib.hid (grow_to HB13.out yq.below)
                  generalize yq.val = w14 at *
                  go_wp2
                  exact ret_step2 rfl rfl rfl HX14.out rfl ⟨⟨XV, (by rw [HN.out]; exact congrArg Ending.returned (HVAL.out _)), fun y hy => (by rw [HN.out] at hy; injection hy)⟩, HB14.out⟩
              · obtain ⟨LS, hLS⟩ : ∃ LS, strOf XM.line = LS := ⟨_, rfl⟩
                rw [hLS] at hkl
                have KL := Lib.hid hkl
                have td : (LS.toList == S0.toList) = false := by rw [← hLS, ← HS0.out, str_toList, str_toList, beq_eq_false_iff_ne]; exact hl
                clear hkl hLS
                have HN : Hid (RD = none) := Lib.hid ((HGOOD.out rfl rfl).trans (if_neg fun h => hl h.1))
                refine wp_region_bw (w := w13) (by kernel_rfl) (by kernel_rfl) ?_
                repeat (refine wpQuiet_step (fun K hK => ?_); go_simp; first | (refine hK _ ?_; clear hK K) | (apply Exists.intro; refine ⟨fun _ => ?_, hK _ ?_⟩; (go_at_call 19; with_reducible exact Calls.quiet_bw (KL.out _)); clear hK K))
                refine wpQuiet_nil ?_
                intro yq
                have HX14 := Lib.hid (HX13.out.keep yq.below)
                have HB14 := Lib.hid (grow_to HB13.out yq.below)
                generalize yq.val = w14 at *
                go_wp2
                exact ret_step2 rfl rfl rfl HX14.out rfl ⟨⟨XV, (by rw [HN.out]; exact congrArg Ending.returned (HVAL.out _)), fun y hy => (by rw [HN.out] at hy; cases hy)⟩, HB14.out⟩

theorem sread_any (s : List UInt8) (hs : s.length ≤ 4096) (w : World) (hA : LibAt w) :
    Calls Tryz.prog 30 #[.string (strOf s)] w fun e w' => (∃ x : Stp, e = .returned (.tuple #[x.val, .bool (readStp s).isSome]) ∧ ∀ y, readStp s = some y → x = y) ∧ Below w.heap.size w w' := by
  by_cases h : s.take 7 = subW
  · exact sread_sub s hs w hA h
  · exact sread_word s hs w hA h

end Go.Proofs.YtdkencepmdfacaaGreatDoor
