/- NumHeeds: every NaN that is handed in is as good as the one, and no other one is answered, as a row and as a card. No condition. -/
import Derived.Test.YtjlnbfpjlladoaaDoorNumTabs
import Derived.Deep.DeepCutAuto
import Derived.Deep.LoopGhost
import Derived.BigQuiet
import Derived.Deep.QuietTactic
set_option maxRecDepth 100000
namespace Go.Proofs.YtjlnbfpjlladoaaDoor.numHeeds
open Go.RowKit Go.WideShapes Go.ChangeShapes Go.ChangeAt
open Go.ChangeMaps (open_string shut_string)

theorem lt_of_block {w : World} {g : Nat} {o : Obj} (h : w.heap[g]? = some o) : g < w.heap.size := by
  rcases Nat.lt_or_ge g w.heap.size with h1 | h1
  · exact h1
  · rw [Array.getElem?_eq_none h1] at h
    cases h
def Cells (w : World) (g : Nat) (t : TypeId) (c : Array Value) : Prop := w.heap[g]? = some (.cells c t (0, 0))

section
variable {w w' : World} {g : Nat} {t : TypeId} {c : Array Value}
theorem Cells.lt (h : Cells w g t c) : g < w.heap.size := lt_of_block h
theorem Cells.cell (h : Cells w g t c) {j : Nat} {v : Value} (hj : c[j]? = some v) : w.cell? ⟨g, j, none⟩ = some v := by
  unfold Cells at h
  simp [World.cell?, h, hj]
theorem Cells.fz (h : Cells w g t c) (j : Nat) : w.frozen? ⟨g, j, none⟩ = false := by
  unfold Cells at h
  simp [World.frozen?, h]
theorem Cells.set (h : Cells w g t c) (j : Nat) (v : Value) : Cells (w.setCell ⟨g, j, none⟩ v) g t (c.setIfInBounds j v) := by
  unfold Cells at h ⊢
  simp [World.setCell, Array.getElem?_modify, h]
theorem Cells.far (h : Cells w g t c) {a : Addr} (ha : g ≠ a.block) (u : Value) : Cells (w.setCell a u) g t c := (Below.heap_setCell w a u g ha).trans h
theorem Cells.alloc (h : Cells w g t c) (o : Obj) : Cells (w.alloc o) g t c := (Below.heap_alloc w o g h.lt).trans h
theorem Cells.grown {row : Option Nat} (h : Cells w g t c) (hb : w.grownBy w' row) (hg : some g ≠ row) : Cells w' g t c := (hb.block g h.lt hg).trans h
theorem Cells.below {k : Nat} (h : Cells w g t c) (hb : Below k w w') (hg : g < k) : Cells w' g t c := (hb.block g hg).trans h
theorem Cells.keep (h : Cells w g t c) (hb : Below w.heap.size w w') : Cells w' g t c := (hb.block g h.lt).trans h
theorem Cells.drewN (h : Cells w g t c) (n : Nat) : Cells (w.drewN n) g t c := h
theorem Cells.drew (h : Cells w g t c) : Cells w.drew g t c := h
theorem Cells.new (w : World) (t : TypeId) (c : Array Value) : Cells (w.alloc (.cells c t)) w.heap.size t c := heap_alloc_new w _
theorem Cells.setRow (h : Cells w g t c) (c' : Array Value) : Cells (w.setRow g c') g t c' := by
  unfold Cells at h ⊢
  simp [World.setRow, Array.getElem?_modify, h]
theorem Cells.newAt (w : World) (t : TypeId) (c : Array Value) (n : Nat) (h : n = w.heap.size) : Cells (w.alloc (.cells c t)) n t c := by
  subst h
  exact Cells.new w t c

end
theorem can_self {v : Nat} (h : isN v = true → v = nanB) : fcan v = v := by
  unfold fcan
  by_cases c : isN v = true
  · rw [if_pos c, h c]
  · rw [if_neg c]
theorem isN_can (a : Nat) : isN (fcan a) = isN a := by
  unfold fcan
  by_cases c : isN a = true
  · rw [if_pos c, c]
    exact isN_nan
  · rw [if_neg c]
theorem can_not {a : Nat} (h : isN a = false) : fcan a = a := by
  unfold fcan
  rw [if_neg (by rw [h]; decide)]
theorem fmin_can (a b : Nat) : fmin (fcan a) (fcan b) = fmin a b := by
  unfold fmin
  rw [isN_can, isN_can]
  cases ha : isN a <;> cases hb : isN b
  · rw [can_not ha, can_not hb]
  · simp
  · simp
  · simp
theorem fmax_can (a b : Nat) : fmax (fcan a) (fcan b) = fmax a b := by
  unfold fmax
  rw [isN_can, isN_can]
  cases ha : isN a <;> cases hb : isN b
  · rw [can_not ha, can_not hb]
  · simp
  · simp
  · simp
theorem fneg_can (a : Nat) : fneg (fcan a) = fneg a := by
  cases ha : isN a
  · rw [can_not ha]
  · unfold fneg
    rw [isN_can, ha, if_pos rfl, if_pos rfl]
theorem fabs_can (a : Nat) : fabs (fcan a) = fabs a := by
  cases ha : isN a
  · rw [can_not ha]
  · unfold fabs
    rw [isN_can, ha, if_pos rfl, if_pos rfl]
theorem ffloor_can (a : Nat) : ffloor (fcan a) = ffloor a := by
  cases ha : isN a
  · rw [can_not ha]
  · unfold ffloor
    rw [isN_can, ha, if_pos rfl, if_pos rfl]
theorem fkey_can (a : Nat) : fkey (fcan a) = fkey a := by
  cases ha : isN a
  · rw [can_not ha]
  · unfold fkey
    rw [isN_can, ha, if_pos rfl, if_pos rfl]
theorem fclass_can (a : Nat) : fclass (fcan a) = fclass a := by
  cases ha : isN a
  · rw [can_not ha]
  · rw [(class_nan a).2 ha, (class_nan (fcan a)).2 (by rw [isN_can]; exact ha)]
theorem min_self {a b : Nat} (ha : a < 2 * signB) (hb : b < 2 * signB) : fcan (fmin a b) = fmin a b := can_self fun h => by
  rw [fmin_eq ha hb] at h ⊢
  unfold rMin at h ⊢
  by_cases c : (isN a || isN b) = true
  · rw [if_pos c]
  · rw [if_neg c] at h
    rw [Bool.or_eq_true] at c
    split at h
    · exact absurd (.inl h) c
    · exact absurd (.inr h) c
theorem max_self {a b : Nat} (ha : a < 2 * signB) (hb : b < 2 * signB) : fcan (fmax a b) = fmax a b := can_self fun h => by
  rw [fmax_eq ha hb] at h ⊢
  unfold rMax at h ⊢
  by_cases c : (isN a || isN b) = true
  · rw [if_pos c]
  · rw [if_neg c] at h
    rw [Bool.or_eq_true] at c
    split at h
    · exact absurd (.inl h) c
    · exact absurd (.inr h) c
theorem neg_self {a : Nat} (ha : a < 2 * signB) : fcan (fneg a) = fneg a := can_self fun h => by
  unfold fneg at h ⊢
  by_cases c : isN a = true
  · rw [if_pos c]
  · rw [if_neg c, isN_flip ha] at h
    exact absurd h c
theorem abs_self (a : Nat) : fcan (fabs a) = fabs a := can_self fun h => by
  unfold fabs at h ⊢
  by_cases c : isN a = true
  · rw [if_pos c]
  · rw [if_neg c, isN_mod] at h
    exact absurd h c
theorem floor_self {a : Nat} (ha : a < 2 * signB) : fcan (ffloor a) = ffloor a := can_self fun h => by
  by_cases c : isN a = true
  · unfold ffloor
    rw [if_pos c]
  · rw [Bool.not_eq_true] at c
    rw [floor_no ha c] at h
    cases h

def cellsOf9 (V : Nat → Nat) : Array Value := #[.int .u64 ((V 0 : Nat) : Int), .int .u64 ((V 1 : Nat) : Int), .int .u64 ((V 2 : Nat) : Int), .int .u64 ((V 3 : Nat) : Int), .int .u64 ((V 4 : Nat) : Int), .int .u64 ((V 5 : Nat) : Int), .int .u64 ((V 6 : Nat) : Int), .int .u64 ((V 7 : Nat) : Int), .int .u64 ((V 8 : Nat) : Int)]
theorem cells_at (V : Nat → Nat) {i : Nat} (h : i < 9) : (cellsOf9 V)[i]? = some (.int .u64 ((V i : Nat) : Int)) := by
  rcases (show i = 0 ∨ i = 1 ∨ i = 2 ∨ i = 3 ∨ i = 4 ∨ i = 5 ∨ i = 6 ∨ i = 7 ∨ i = 8 by omega) with rfl | rfl | rfl | rfl | rfl | rfl | rfl | rfl | rfl <;> rfl
def vals (a b : Nat) : Nat → Nat
  | 0 => fadd a b
  | 1 => fsub a b
  | 2 => fmul a b
  | 3 => fdiv a b
  | 4 => fmin a b
  | 5 => fmax a b
  | 6 => fneg a
  | 7 => fabs a
  | _ => ffloor a
theorem vals_ok {a b : Nat} (ha : a < 2 * signB) (hb : b < 2 * signB) {i : Nat} (h : i < 9) : vals a b i < 2 * signB ∧ fcan (vals a b i) = vals a b i := by
  rcases (show i = 0 ∨ i = 1 ∨ i = 2 ∨ i = 3 ∨ i = 4 ∨ i = 5 ∨ i = 6 ∨ i = 7 ∨ i = 8 by omega) with rfl | rfl | rfl | rfl | rfl | rfl | rfl | rfl | rfl
  · exact fadd_lt a b
  · exact fsub_lt a b
  · exact fmul_lt a b
  · exact fdiv_lt a b
  · exact ⟨fmin_lt ha hb, min_self ha hb⟩
  · exact ⟨fmax_lt ha hb, max_self ha hb⟩
  · exact ⟨fneg_lt ha, neg_self ha⟩
  · exact ⟨fabs_lt ha, abs_self a⟩
  · exact ⟨ffloor_lt ha, floor_self ha⟩

set_option maxHeartbeats 8000000 in
set_option maxRecDepth 100000 in
theorem walk (a b : Nat) (w : World) (hT : w.cell? TA = some (.int .u8 50)) (hT2 : TabsAt w) (ha : a < 2 * signB) (hb : b < 2 * signB) :
    Calls Tryd.prog 5 #[.int .u64 (a : Nat), .int .u64 (b : Nat)] w fun e w' => e = .returned (.bool true) ∧ Below w.heap.size w w' := by
  have hG := Lib.hid (Below.refl w.heap.size w)
  have HT2 := Lib.hid hT2
  clear hT2
  have ca := can_lt ha
  have cb := can_lt hb
  have c1 := told_grew (canon_is ha)
  have c2 := told_grew (canon_is hb)
  have HC3 := Lib.hid fun (z : Nat) (hz : z < 2 * signB) => canon_is hz
  have HC4 := Lib.hid fun (z : Nat) (hz : z < 2 * signB) => class_any hz
  have kx := text_any ha
  have ky := text_any ca
  rw [ftext_can] at ky
  have ko := told_grew (order_any ha hb)
  have kp := told_grew (order_any ca cb)
  rw [show forder (fcan a) (fcan b) = forder a b by unfold forder; rw [fkey_can, fkey_can]] at kp
  have kk := told_grew (class_any ha)
  have kl := told_grew (class_any ca)
  rw [fclass_can] at kl
  have HV := Lib.hid fun (i : Nat) (h : i < 9) => vals_ok ha hb h
  have add1 := told_grew (add_any ha hb)
  have add2 := told_grew (add_any ca cb)
  rw [fadd_can ha hb] at add2
  have sub1 := told_grew (sub_any ha hb)
  have sub2 := told_grew (sub_any ca cb)
  rw [fsub_can ha hb] at sub2
  have mul1 := told_grew (mul_any ha hb)
  have mul2 := told_grew (mul_any ca cb)
  rw [fmul_can ha hb] at mul2
  have div1 := told_grew (div_any ha hb)
  have div2 := told_grew (div_any ca cb)
  rw [fdiv_can ha hb] at div2
  have min1 := told_grew (min_any ha hb)
  have min2 := told_grew (min_any ca cb)
  rw [fmin_can] at min2
  have max1 := told_grew (max_any ha hb)
  have max2 := told_grew (max_any ca cb)
  rw [fmax_can] at max2
  have neg1 := told_grew (neg_any ha)
  have neg2 := told_grew (neg_any ca)
  rw [fneg_can] at neg2
  have abs1 := told_grew (abs_any ha)
  have abs2 := told_grew (abs_any ca)
  rw [fabs_can] at abs2
  have floor1 := told_grew (floor_any ha)
  have floor2 := told_grew (floor_any ca)
  rw [ffloor_can] at floor2
  obtain ⟨x, hx⟩ : ∃ z : Int, z = ((fcan a : Nat) : Int) := ⟨_, rfl⟩
  obtain ⟨y, hy⟩ : ∃ z : Int, z = ((fcan b : Nat) : Int) := ⟨_, rfl⟩
  rw [← hx] at c1 ky kl kp add2 sub2 mul2 div2 min2 max2 neg2 abs2 floor2
  rw [← hy] at c2 kp add2 sub2 mul2 div2 min2 max2
  obtain ⟨V, hV⟩ : ∃ V, V = vals a b := ⟨_, rfl⟩
  rw [← hV] at HV
  rw [show fadd a b = V 0 by rw [hV]; rfl] at add1 add2
  rw [show fsub a b = V 1 by rw [hV]; rfl] at sub1 sub2
  rw [show fmul a b = V 2 by rw [hV]; rfl] at mul1 mul2
  rw [show fdiv a b = V 3 by rw [hV]; rfl] at div1 div2
  rw [show fmin a b = V 4 by rw [hV]; rfl] at min1 min2
  rw [show fmax a b = V 5 by rw [hV]; rfl] at max1 max2
  rw [show fneg a = V 6 by rw [hV]; rfl] at neg1 neg2
  rw [show fabs a = V 7 by rw [hV]; rfl] at abs1 abs2
  rw [show ffloor a = V 8 by rw [hV]; rfl] at floor1 floor2
  clear hV hx hy ca cb
  obtain ⟨TX, hTX⟩ : ∃ z : ByteArray, z = ⟨(ftext a).toArray⟩ := ⟨_, rfl⟩
  obtain ⟨OR, hOR⟩ : ∃ z, z = forder a b := ⟨_, rfl⟩
  obtain ⟨CL, hCL⟩ : ∃ z, z = fclass a := ⟨_, rfl⟩
  rw [← hTX] at kx ky
  rw [← hOR] at ko kp
  rw [← hCL] at kk kl
  clear hTX hOR hCL ha hb
  go_enter Tryd.func5, Tryd.ntmps5
  go_upto_region 3 with (first | (go_at_call 10; first | (with_reducible (refine (c1 _).mono ?_); rintro _ w' ⟨rfl, hb⟩; replace hG := Lib.hid (grow_trans hG.out hb); clear hb) | (with_reducible (refine (c2 _).mono ?_); rintro _ w' ⟨rfl, hb⟩; replace hG := Lib.hid (grow_trans hG.out hb); clear hb)) | (go_at_call 11; first | (with_reducible (refine (add1 _).mono ?_); rintro _ w' ⟨rfl, hb⟩; replace hG := Lib.hid (grow_trans hG.out hb); clear hb) | (with_reducible (refine (add2 _).mono ?_); rintro _ w' ⟨rfl, hb⟩; replace hG := Lib.hid (grow_trans hG.out hb); clear hb)) | (go_at_call 12; first | (with_reducible (refine (sub1 _).mono ?_); rintro _ w' ⟨rfl, hb⟩; replace hG := Lib.hid (grow_trans hG.out hb); clear hb) | (with_reducible (refine (sub2 _).mono ?_); rintro _ w' ⟨rfl, hb⟩; replace hG := Lib.hid (grow_trans hG.out hb); clear hb)) | (go_at_call 13; first | (with_reducible (refine (mul1 _).mono ?_); rintro _ w' ⟨rfl, hb⟩; replace hG := Lib.hid (grow_trans hG.out hb); clear hb) | (with_reducible (refine (mul2 _).mono ?_); rintro _ w' ⟨rfl, hb⟩; replace hG := Lib.hid (grow_trans hG.out hb); clear hb)) | (go_at_call 14; first | (with_reducible (refine (div1 _).mono ?_); rintro _ w' ⟨rfl, hb⟩; replace hG := Lib.hid (grow_trans hG.out hb); clear hb) | (with_reducible (refine (div2 _).mono ?_); rintro _ w' ⟨rfl, hb⟩; replace hG := Lib.hid (grow_trans hG.out hb); clear hb)) | (go_at_call 15; first | (with_reducible (refine (min1 _).mono ?_); rintro _ w' ⟨rfl, hb⟩; replace hG := Lib.hid (grow_trans hG.out hb); clear hb) | (with_reducible (refine (min2 _).mono ?_); rintro _ w' ⟨rfl, hb⟩; replace hG := Lib.hid (grow_trans hG.out hb); clear hb)) | (go_at_call 16; first | (with_reducible (refine (max1 _).mono ?_); rintro _ w' ⟨rfl, hb⟩; replace hG := Lib.hid (grow_trans hG.out hb); clear hb) | (with_reducible (refine (max2 _).mono ?_); rintro _ w' ⟨rfl, hb⟩; replace hG := Lib.hid (grow_trans hG.out hb); clear hb)) | (go_at_call 17; first | (with_reducible (refine (neg1 _).mono ?_); rintro _ w' ⟨rfl, hb⟩; replace hG := Lib.hid (grow_trans hG.out hb); clear hb) | (with_reducible (refine (neg2 _).mono ?_); rintro _ w' ⟨rfl, hb⟩; replace hG := Lib.hid (grow_trans hG.out hb); clear hb)) | (go_at_call 18; first | (with_reducible (refine (abs1 _).mono ?_); rintro _ w' ⟨rfl, hb⟩; replace hG := Lib.hid (grow_trans hG.out hb); clear hb) | (with_reducible (refine (abs2 _).mono ?_); rintro _ w' ⟨rfl, hb⟩; replace hG := Lib.hid (grow_trans hG.out hb); clear hb)) | (go_at_call 19; first | (with_reducible (refine (floor1 _).mono ?_); rintro _ w' ⟨rfl, hb⟩; replace hG := Lib.hid (grow_trans hG.out hb); clear hb) | (with_reducible (refine (floor2 _).mono ?_); rintro _ w' ⟨rfl, hb⟩; replace hG := Lib.hid (grow_trans hG.out hb); clear hb)))
  have HG2 := Lib.hid (hG.out.alloc hG.out.size (.cells #[.int .u64 ((V 0 : Nat) : Int), .int .u64 ((V 1 : Nat) : Int), .int .u64 ((V 2 : Nat) : Int), .int .u64 ((V 3 : Nat) : Int), .int .u64 ((V 4 : Nat) : Int), .int .u64 ((V 5 : Nat) : Int), .int .u64 ((V 6 : Nat) : Int), .int .u64 ((V 7 : Nat) : Int), .int .u64 ((V 8 : Nat) : Int)] 22))
  have hL0 := Cells.new w' 22 (cellsOf9 V)
  unfold cellsOf9 at hL0
  obtain ⟨w1, hw1⟩ : ∃ w1, w1 = w'.alloc (.cells #[.int .u64 ((V 0 : Nat) : Int), .int .u64 ((V 1 : Nat) : Int), .int .u64 ((V 2 : Nat) : Int), .int .u64 ((V 3 : Nat) : Int), .int .u64 ((V 4 : Nat) : Int), .int .u64 ((V 5 : Nat) : Int), .int .u64 ((V 6 : Nat) : Int), .int .u64 ((V 7 : Nat) : Int), .int .u64 ((V 8 : Nat) : Int)] 22) := ⟨_, rfl⟩
  rw [← hw1] at HG2 hL0 ⊢
  have HL := Lib.hid hL0
  obtain ⟨g1, hg1⟩ : ∃ g1, g1 = w'.heap.size := ⟨_, rfl⟩
  rw [← hg1] at HL hL0 ⊢
  clear hw1 hL0 hg1 hG
  have hG := Lib.hid (Below.refl w1.heap.size w1)
  go_upto_region 4 with (first | (go_at_call 10; first | (with_reducible (refine (c1 _).mono ?_); rintro _ v' ⟨rfl, hb⟩; replace hG := Lib.hid (grow_trans hG.out hb); clear hb) | (with_reducible (refine (c2 _).mono ?_); rintro _ v' ⟨rfl, hb⟩; replace hG := Lib.hid (grow_trans hG.out hb); clear hb)) | (go_at_call 11; first | (with_reducible (refine (add1 _).mono ?_); rintro _ v' ⟨rfl, hb⟩; replace hG := Lib.hid (grow_trans hG.out hb); clear hb) | (with_reducible (refine (add2 _).mono ?_); rintro _ v' ⟨rfl, hb⟩; replace hG := Lib.hid (grow_trans hG.out hb); clear hb)) | (go_at_call 12; first | (with_reducible (refine (sub1 _).mono ?_); rintro _ v' ⟨rfl, hb⟩; replace hG := Lib.hid (grow_trans hG.out hb); clear hb) | (with_reducible (refine (sub2 _).mono ?_); rintro _ v' ⟨rfl, hb⟩; replace hG := Lib.hid (grow_trans hG.out hb); clear hb)) | (go_at_call 13; first | (with_reducible (refine (mul1 _).mono ?_); rintro _ v' ⟨rfl, hb⟩; replace hG := Lib.hid (grow_trans hG.out hb); clear hb) | (with_reducible (refine (mul2 _).mono ?_); rintro _ v' ⟨rfl, hb⟩; replace hG := Lib.hid (grow_trans hG.out hb); clear hb)) | (go_at_call 14; first | (with_reducible (refine (div1 _).mono ?_); rintro _ v' ⟨rfl, hb⟩; replace hG := Lib.hid (grow_trans hG.out hb); clear hb) | (with_reducible (refine (div2 _).mono ?_); rintro _ v' ⟨rfl, hb⟩; replace hG := Lib.hid (grow_trans hG.out hb); clear hb)) | (go_at_call 15; first | (with_reducible (refine (min1 _).mono ?_); rintro _ v' ⟨rfl, hb⟩; replace hG := Lib.hid (grow_trans hG.out hb); clear hb) | (with_reducible (refine (min2 _).mono ?_); rintro _ v' ⟨rfl, hb⟩; replace hG := Lib.hid (grow_trans hG.out hb); clear hb)) | (go_at_call 16; first | (with_reducible (refine (max1 _).mono ?_); rintro _ v' ⟨rfl, hb⟩; replace hG := Lib.hid (grow_trans hG.out hb); clear hb) | (with_reducible (refine (max2 _).mono ?_); rintro _ v' ⟨rfl, hb⟩; replace hG := Lib.hid (grow_trans hG.out hb); clear hb)) | (go_at_call 17; first | (with_reducible (refine (neg1 _).mono ?_); rintro _ v' ⟨rfl, hb⟩; replace hG := Lib.hid (grow_trans hG.out hb); clear hb) | (with_reducible (refine (neg2 _).mono ?_); rintro _ v' ⟨rfl, hb⟩; replace hG := Lib.hid (grow_trans hG.out hb); clear hb)) | (go_at_call 18; first | (with_reducible (refine (abs1 _).mono ?_); rintro _ v' ⟨rfl, hb⟩; replace hG := Lib.hid (grow_trans hG.out hb); clear hb) | (with_reducible (refine (abs2 _).mono ?_); rintro _ v' ⟨rfl, hb⟩; replace hG := Lib.hid (grow_trans hG.out hb); clear hb)) | (go_at_call 19; first | (with_reducible (refine (floor1 _).mono ?_); rintro _ v' ⟨rfl, hb⟩; replace hG := Lib.hid (grow_trans hG.out hb); clear hb) | (with_reducible (refine (floor2 _).mono ?_); rintro _ v' ⟨rfl, hb⟩; replace hG := Lib.hid (grow_trans hG.out hb); clear hb)))
  have HG3 := Lib.hid (grow_trans HG2.out hG.out)
  have HG4 := Lib.hid (HG3.out.alloc HG3.out.size (.cells #[.int .u64 ((V 0 : Nat) : Int), .int .u64 ((V 1 : Nat) : Int), .int .u64 ((V 2 : Nat) : Int), .int .u64 ((V 3 : Nat) : Int), .int .u64 ((V 4 : Nat) : Int), .int .u64 ((V 5 : Nat) : Int), .int .u64 ((V 6 : Nat) : Int), .int .u64 ((V 7 : Nat) : Int), .int .u64 ((V 8 : Nat) : Int)] 22))
  have hL0 := Cells.new v' 22 (cellsOf9 V)
  unfold cellsOf9 at hL0
  have hK0 := Cells.alloc (Cells.keep HL.out hG.out) (.cells #[.int .u64 ((V 0 : Nat) : Int), .int .u64 ((V 1 : Nat) : Int), .int .u64 ((V 2 : Nat) : Int), .int .u64 ((V 3 : Nat) : Int), .int .u64 ((V 4 : Nat) : Int), .int .u64 ((V 5 : Nat) : Int), .int .u64 ((V 6 : Nat) : Int), .int .u64 ((V 7 : Nat) : Int), .int .u64 ((V 8 : Nat) : Int)] 22)
  obtain ⟨w2, hw2⟩ : ∃ w2, w2 = v'.alloc (.cells #[.int .u64 ((V 0 : Nat) : Int), .int .u64 ((V 1 : Nat) : Int), .int .u64 ((V 2 : Nat) : Int), .int .u64 ((V 3 : Nat) : Int), .int .u64 ((V 4 : Nat) : Int), .int .u64 ((V 5 : Nat) : Int), .int .u64 ((V 6 : Nat) : Int), .int .u64 ((V 7 : Nat) : Int), .int .u64 ((V 8 : Nat) : Int)] 22) := ⟨_, rfl⟩
  rw [← hw2] at HG4 hL0 hK0 ⊢
  have HM := Lib.hid hL0
  have HK := Lib.hid hK0
  obtain ⟨g2, hg2⟩ : ∃ g2, g2 = v'.heap.size := ⟨_, rfl⟩
  rw [← hg2] at HM hL0 ⊢
  clear hw2 hL0 hK0 hg2 hG HG3 HG2 HL add1 add2 sub1 sub2 mul1 mul2 div1 div2 min1 min2 max1 max2 neg1 neg2 abs1 abs2 floor1 floor2 c1 c2
  go_wp2
  go_loopw [9] (fun v wr => ∃ i : Nat, v = .int .i64 ((i : Nat) : Int) ∧ i ≤ 9 ∧ Cells wr g1 22 (cellsOf9 V) ∧ Cells wr g2 22 (cellsOf9 V) ∧ Below w.heap.size w wr) (fun v _ => 10 - (intOf v).toNat)
  case atStart => exact ⟨0, rfl, by omega, HK.out, HM.out, HG4.out⟩
  case round =>
    obtain ⟨i, rfl, hi, hA, hB, hW⟩ := hrel
    have HA := Lib.hid hA
    have HB := Lib.hid hB
    have HW := Lib.hid hW
    clear HG4 HM HK
    by_cases c : i < 9
    · have d0 := Cells.cell hA (cells_at V c)
      have d1 := Cells.cell hB (cells_at V c)
      obtain ⟨hz, hzc⟩ := HV.out i c
      have kc := HC3.out (V i) hz
      have kd := HC4.out (V i) hz
      rw [hzc] at kc
      have i0 : (0 : Int) ≤ ((i : Nat) : Int) := by omega
      have i1 : ((i : Nat) : Int) < 9 := by omega
      have hw1 : IntKind.i64.wrap (((i : Nat) : Int) + 1) = ((i : Nat) : Int) + 1 := by
        rw [IntKind.wrap_i64]
        omega
      have hnan : fclass (V i) = 0 → ((V i : Nat) : Int) = 9221120237041090561 := fun h => by
        have h1 := (class_nan (V i)).1 h
        rw [← hzc]
        unfold fcan
        rw [if_pos h1]
        rfl
      obtain ⟨z, hzz⟩ : ∃ z : Int, z = ((V i : Nat) : Int) := ⟨_, rfl⟩
      obtain ⟨cl, hcl⟩ : ∃ z : Int, z = fclass (V i) := ⟨_, rfl⟩
      rw [← hzz] at d0 d1 kc kd hnan
      rw [← hcl] at kd hnan
      clear hzz hcl hz hzc hA hB hW HV HC3 HC4
      by_cases e : cl = 0
      · have hn := hnan e
        rw [e] at kd
        have q1 : (z != 9221120237041090561) = false := bne_eq_false_iff_eq.2 hn
        clear hnan hn e
        go_upto_region 7 with fail
        go_quiet ((first | (go_at_call 10; refine Calls.quiet_of (kc _)) | (go_at_call 20; refine Calls.quiet_of (kd _))))
        go_wp2
        exact ⟨⟨i + 1, by first | rfl | simp, by omega, HA.out.drewN _, HB.out.drewN _, below_drewN HW.out _⟩, by simp [intOf]; omega⟩
      · have q1 : (cl == 0) = false := beq_eq_false_iff_ne.2 e
        clear hnan e
        go_upto_region 7 with fail
        go_quiet ((first | (go_at_call 10; refine Calls.quiet_of (kc _)) | (go_at_call 20; refine Calls.quiet_of (kd _))))
        go_wp2
        exact ⟨⟨i + 1, by first | rfl | simp, by omega, HA.out.drewN _, HB.out.drewN _, below_drewN HW.out _⟩, by simp [intOf]; omega⟩
    · clear hA hB hW HV HC3 HC4 HA HB
      have hG := HW
      go_wp2_with (first | (go_at_call 6; refine (awake_any _ (cell_keeps hG.out hT)).mono ?_; rintro _ _ ⟨rfl, hb⟩; replace hG := Lib.hid (grow_trans hG.out hb); clear hb) | (go_at_call 7; first | (with_reducible (refine (kx _ (tabs_keep hG.out HT2.out)).mono ?_); rintro _ _ ⟨rfl, hb⟩; replace hG := Lib.hid (grow_trans hG.out hb); clear hb) | (with_reducible (refine (ky _ (tabs_keep hG.out HT2.out)).mono ?_); rintro _ _ ⟨rfl, hb⟩; replace hG := Lib.hid (grow_trans hG.out hb); clear hb)) | (go_at_call 21; first | (with_reducible (refine (ko _).mono ?_); rintro _ w' ⟨rfl, hb⟩; replace hG := Lib.hid (grow_trans hG.out hb); clear hb) | (with_reducible (refine (kp _).mono ?_); rintro _ w' ⟨rfl, hb⟩; replace hG := Lib.hid (grow_trans hG.out hb); clear hb)) | (go_at_call 20; first | (with_reducible (refine (kk _).mono ?_); rintro _ w' ⟨rfl, hb⟩; replace hG := Lib.hid (grow_trans hG.out hb); clear hb) | (with_reducible (refine (kl _).mono ?_); rintro _ w' ⟨rfl, hb⟩; replace hG := Lib.hid (grow_trans hG.out hb); clear hb)))
      go_ret
      exact ⟨rfl, hG.out⟩

-- LIFT
set_option maxRecDepth 100000 in
theorem contract (H : Type) (enc : TypeId × Value → H) (W : World) (base : Nat) (args : Array Value) (ds gs : List (DataW H)) (before : List MemPlace)
    (hval : ∀ (j : Nat) t v, Tryd.f5.params[j]? = some t → args[j]? = some v → Value.okWide Tryd.prog W .any base t v)
    (hW : DataW.Whole enc Tryd.prog Tryd.f5.params.toList Rows.numHeedsSpec.vars false W args.toList ds gs before) (hL : laidMetH Tryd.prog Rows.numHeedsRow.laid W) :
    Calls Tryd.prog 5 args W fun e W' => ∃ v, e = .returned v ∧ Rows.numHeedsSpec.post enc Tryd.prog Tryd.f5 false true false false W args v W' := by
  have hT := cell_of (show laidMetH Tryd.prog laidOf W from hL)
  have hT2 := tabs_of (show laidMetH Tryd.prog laidOf W from hL)
  clear hL
  have hts : Tryd.f5.params.toList.all (fun t => Tryd.prog.readableRec t && decide (t < Tryd.prog.types.size)) = true := by kernel_rfl
  have hW' := hW
  obtain ⟨p, q, hA0, hV, rfl, hfz, hnd⟩ := hW
  have hA : DataW.TrodAll enc Tryd.prog W 0 (fun _ => true) true Tryd.f5.params.toList args.toList ds p := hA0
  rw [Tryd.params5] at hA hval
  obtain ⟨v0, vs0, d0, ds0, p0, q0, hargs, rfl, rfl, h0, r0⟩ := trodAll_cons hA
  obtain ⟨v1, vs1, d1, ds1, p1, q1, rfl, rfl, rfl, h1, r1⟩ := trodAll_cons r0
  obtain ⟨rfl, rfl, rfl⟩ := trodAll_nil r1
  obtain rfl : args = #[v0, v1] := by cases args; simp_all
  obtain ⟨rfl, rfl⟩ := trodVars_none hV
  have hfn : Rows.numHeedsSpec.fn H ([d0, d1] ++ []) = { results := [.lit (.bool true)], args := [d0, d1] } := rfl
  have hfin := fun W' (hbel : Below W.heap.size W W') => law_post (f := Tryd.f5) (s := Rows.numHeedsSpec) 4 Tryd.laid hts rfl Tryd.underlying4 rfl hfn hW' hbel
  clear hA0 hts hfn
  obtain ⟨a0, rfl, rfl, rfl, w0⟩ := open_int Tryd.underlying22 (hval 0 22 v0 rfl rfl) h0
  obtain ⟨a1, rfl, rfl, rfl, w1⟩ := open_int Tryd.underlying22 (hval 1 22 v1 rfl rfl) h1
  have x0 : 0 ≤ a0 ∧ a0 ≤ 18446744073709551615 := by simpa [Lit.wf, IntKind.min, IntKind.max, IntKind.signed, IntKind.bits] using w0
  obtain ⟨n0, rfl⟩ := Int.eq_ofNat_of_zero_le x0.1
  have x1 : 0 ≤ a1 ∧ a1 ≤ 18446744073709551615 := by simpa [Lit.wf, IntKind.min, IntKind.max, IntKind.signed, IntKind.bits] using w1
  obtain ⟨n1, rfl⟩ := Int.eq_ofNat_of_zero_le x1.1
  exact (walk n0 n1 W hT hT2 (by unfold signB; omega) (by unfold signB; omega)).mono fun e W' ⟨he, hg⟩ => ⟨_, he, hfin W' hg⟩

theorem reads (os : Os) {H : Type} (enc : TypeId × Value → H) : ∃ places, DataW.whole enc Tryd.prog ((laidWorld os).forCall (fun _ _ => 0) ⟨#[], #[.int .u64 0, .int .u64 0], []⟩).memory Tryd.f5.params.toList Rows.numHeedsSpec.vars false #[.int .u64 0, .int .u64 0].toList 8 = some ([.lit (.int .u64 0), .lit (.int .u64 0)], [], places) :=
  ⟨[], by kernel_rfl⟩
theorem laid_met (os : Os) : laidMet Tryd.prog Rows.numHeedsRow.laid ((laidWorld os).forCall (fun _ _ => 0) ⟨#[], #[.int .u64 0, .int .u64 0], []⟩).memory := laid_here os #[.int .u64 0, .int .u64 0]

set_option maxRecDepth 100000 in
theorem lifted (os : Os) (started : os.Started) (H : Type) (enc : TypeId × Value → H) (F : Stop.Interp) :
    ReturnsInHanded {} Tryd.checked os 5 .any ((OpenSpec.ofChange Rows.numHeedsSpec).preRow enc Tryd.prog Tryd.f5 Rows.numHeedsRow.domain false Rows.numHeedsRow.laid) (((OpenSpec.ofChange Rows.numHeedsSpec).at F).post enc Tryd.prog Tryd.f5 false true false false) := by
  obtain ⟨places, hx⟩ := reads os enc
  refine returnsInHanded_of_row (C := Tryd.checked) (s := OpenSpec.ofChange Rows.numHeedsSpec) Tryd.own started (by kernel_rfl) Tryd.func5
    (witness_row_atRef (enc := enc) (C := Tryd.checked) false (laidWorld os) #[.int .u64 0, .int .u64 0] rfl (by kernel_rfl) (by kernel_rfl) (by kernel_rfl)
      (OpenSpec.preRow_of_cond 8 hx (by kernel_rfl) (fun k hk => by cases hk) (by kernel_rfl) (laid_met os))) ?_
  intro W base args ds gs before hval hW _ _ _ hL _ _
  exact contract H enc W base args ds gs before hval hW hL

theorem said : Rows.NumHeedsSaid :=
  OpenClaim.holds_of_cond 5 Tryd.f5 rfl rfl rfl rfl rfl rfl rfl ⟨rfl, rfl, rfl, rfl, rfl⟩ rfl rfl rfl rfl rfl (by kernel_rfl) Tryd.func5 (by kernel_rfl)
    (of_decide_eq_true (by kernel_rfl)) (by unfold Func.isWrapper; first | (rw [if_pos (by decide +kernel)]; kernel_rfl) | (rw [if_neg (by decide +kernel)]; exact ⟨rfl, rfl⟩))
    (fun os started H enc _ F => by rw [OpenClaim.pre_eq_preRow]; exact lifted os started H enc F)

theorem plain (f : FuncId) (fn : Func) (hf : Tryd.pinned.checked.prog.funcNamed "gaffer/gafferlaw01.NumHeeds" = some f) (hfn : Tryd.pinned.checked.prog.funcs[f]? = some fn) :
    true = Tryd.pinned.checked.prog.looks [] ∧ ∀ (j : Nat) t, fn.params[j]? = some t → Tryd.pinned.checked.prog.wantsStandIn t = false := by
  obtain rfl : f = 5 := Option.some.inj ((show Tryd.prog.funcNamed "gaffer/gafferlaw01.NumHeeds" = some 5 by kernel_rfl).symm.trans hf) |>.symm
  obtain rfl : fn = Tryd.f5 := (Option.some.inj (Tryd.func5.symm.trans hfn)).symm
  refine ⟨by kernel_rfl, fun j t ht => ?_⟩
  rw [Tryd.params5] at ht
  have hm := Array.mem_of_getElem? ht
  simp only [List.mem_toArray, List.mem_cons, List.not_mem_nil, or_false] at hm
  rcases hm with rfl | rfl
  · exact (show Tryd.prog.wantsStandIn 22 = false by kernel_rfl)
  · exact (show Tryd.prog.wantsStandIn 22 = false by kernel_rfl)

theorem proved : Rows.NumHeedsCardSaid :=
  Claim7.holds_tied_plain_at .later [] _ _ _ _ said (fun _ h => by cases h) (by kernel_rfl) (fun _ h => by cases h) numHeeds_row_tie rfl ⟨rfl, rfl⟩ (by kernel_rfl) rfl plain (by kernel_rfl)

end Go.Proofs.YtjlnbfpjlladoaaDoor.numHeeds
