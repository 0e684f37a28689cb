/- The reader's methods: what each answers and leaves. -/
import Derived.Test.YtpnfdmglhonkmaaBits
import Derived.Test.YtpnfdmglhonkmaaText
set_option maxRecDepth 100000
namespace Go.Proofs.Ytpnfdmglhonkmaa
open Go.RowKit

/-- what a call of a reader answers, where the reader stands behind it, and its fault -/
def rdrStep {α : Type} (zero : α) (r : Except Int (α × Nat)) (p : Nat) (e : Int) : α × Nat × Int :=
  if e ≠ 0 then (zero, p, e) else
  match r with
  | .ok (v, k) => (v, p + k, 0)
  | .error c => (zero, p, c)

def MethPost {α : Type} (mk : α → Value) (g : Nat) (b : ByteArray) (s : α × Nat × Int) (w : World) (x : Ending) (w' : World) : Prop :=
  x = .returned (mk s.1) ∧ Rdr w' g b s.2.1 s.2.2 ∧ w.grownBy w' (some g)

theorem meth_of_face {α : Type} {mk : α → Value} {zero : α} {g : Nat} {b : ByteArray} {p : Nat} {r : Except Int (α × Nat)} {w w' : World} {x : Ending} (h : FacePost mk zero g b p r w x w') :
    MethPost mk g b (rdrStep zero r p 0) w x w' := by
  cases r with
  | error c => exact h
  | ok v => obtain ⟨v, k⟩ := v; exact h

theorem meth_of_fault {α : Type} {mk : α → Value} {zero : α} {g : Nat} {b : ByteArray} {p : Nat} {r : Except Int (α × Nat)} {w w' : World} {x : Ending} {e : Int} (he : e ≠ 0)
    (h : x = .returned (mk zero) ∧ Rdr w' g b p e ∧ w.grownBy w' (some g)) : MethPost mk g b (rdrStep zero r p e) w x w' := by
  unfold MethPost rdrStep
  rw [if_pos he]
  exact h

set_option maxHeartbeats 1000000 in
theorem rNum (g : Nat) (b : ByteArray) (p : Nat) (e : Int) (most : Nat) (w : World) (hR : Rdr w g b p e) (hp : p ≤ b.size) (hb : b.size < 4294967296) (hm : most < 18446744073709551616) :
    Calls Try.prog 22 #[.pointer (some ⟨g, 0, none⟩), .int .u64 (most : Int)] w (MethPost (Value.int .u64) g b (rdrStep 0 (upR (numR (b.data.toList.drop p) most 21)) p e) w) := by
  obtain ⟨W, hW⟩ : ∃ W, W = ((w.alloc (.cells #[.pointer (some ⟨g, 0, none⟩)] 70)).alloc (.cells #[.int .u64 (most : Int)] 41)) := ⟨_, rfl⟩
  have b0 : W.heap[w.heap.size]? = some (.cells #[.pointer (some ⟨g, 0, none⟩)] 70 (0, 0)) := by rw [hW]; exact block_alloc (heap_alloc_new _ _) _
  have b1 : W.heap[w.heap.size + 1]? = some (.cells #[.int .u64 (most : Int)] 41 (0, 0)) := by
    rw [hW]
    have h := heap_alloc_new (w.alloc (.cells #[.pointer (some ⟨g, 0, none⟩)] 70)) (.cells #[.int .u64 (most : Int)] 41)
    simpa using h
  have hRW : Rdr W g b p e := by rw [hW]; exact (hR.alloc _).alloc _
  have hBW : Below w.heap.size w W := by rw [hW]; exact ((Below.refl _ w).alloc (Nat.le_refl _) _).alloc (by simp) _
  have hsz : w.heap.size + 1 < W.heap.size := by rw [hW]; simp
  have hgW : w.grownBy W (some g) := only_of_below hBW _
  have hmf : ∀ (fn : Fn) (first cap : Array Value) (w : World), (Instr.makeFunc fn first cap).run Try.prog w = .ok (.func fn first cap) w := fun _ _ _ _ => rfl
  have hc : Calls Try.prog 29 #[.pointer (some ⟨g, 0, none⟩), .func (.func 30) #[] #[.pointer (some ⟨w.heap.size, 0, none⟩), .pointer (some ⟨w.heap.size + 1, 0, none⟩)]] W (MethPost (Value.int .u64) g b (rdrStep 0 (upR (numR (b.data.toList.drop p) most 21)) p e) W) := by
    by_cases he : e = 0
    · subst he
      exact (faceU_any g b p 30 #[.pointer (some ⟨w.heap.size, 0, none⟩), .pointer (some ⟨w.heap.size + 1, 0, none⟩)] (upR (numR (b.data.toList.drop p) most 21)) W hRW (fun _ => rfl) (fun wx hx hbx => num_lit w.heap.size (w.heap.size + 1) g b p most wx (hbx.block _ (by omega) |>.trans b0) (hbx.block _ (by omega) |>.trans b1) hx hp hb hm)).mono fun _ _ h => meth_of_face h
    · exact (faceU_fault g b p e _ W hRW he).mono fun _ _ h => meth_of_fault he h
  generalize rdrStep 0 (upR (numR (b.data.toList.drop p) most 21)) p e = R at hc ⊢
  have HC := Lib.hid hc
  have HW := Lib.hid hW
  clear hc hW b0 b1
  go_enter Try.func22, Try.ntmps22
  go_wp2_with fail
  rw [← HW.out]
  refine HC.out.mono ?_
  obtain ⟨v, q, f⟩ := R
  rintro x w1 ⟨rfl, hR1, hg1⟩
  go_wp2
  go_ret
  exact ⟨rfl, hR1, only_trans hgW hg1⟩


set_option maxHeartbeats 1000000 in
theorem rText (g : Nat) (b : ByteArray) (p : Nat) (e : Int) (most : Int) (w : World) (hR : Rdr w g b p e) (hp : p ≤ b.size) (hb : b.size < 4294967296) (hm : most ≤ 9223372036854775807) :
    Calls Try.prog 66 #[.pointer (some ⟨g, 0, none⟩), .int .i64 most] w (MethPost Value.string g b (rdrStep ⟨#[]⟩ (textR (b.data.toList.drop p) most.toNat) p e) w) := by
  obtain ⟨W, hW⟩ : ∃ W, W = ((w.alloc (.cells #[.pointer (some ⟨g, 0, none⟩)] 70)).alloc (.cells #[.int .i64 most] 3)) := ⟨_, rfl⟩
  have b0 : W.heap[w.heap.size]? = some (.cells #[.pointer (some ⟨g, 0, none⟩)] 70 (0, 0)) := by rw [hW]; exact block_alloc (heap_alloc_new _ _) _
  have b1 : W.heap[w.heap.size + 1]? = some (.cells #[.int .i64 most] 3 (0, 0)) := by
    rw [hW]
    have h := heap_alloc_new (w.alloc (.cells #[.pointer (some ⟨g, 0, none⟩)] 70)) (.cells #[.int .i64 most] 3)
    simpa using h
  have hRW : Rdr W g b p e := by rw [hW]; exact (hR.alloc _).alloc _
  have hBW : Below w.heap.size w W := by rw [hW]; exact ((Below.refl _ w).alloc (Nat.le_refl _) _).alloc (by simp) _
  have hsz : w.heap.size + 1 < W.heap.size := by rw [hW]; simp
  have hgW : w.grownBy W (some g) := only_of_below hBW _
  have hmf : ∀ (fn : Fn) (first cap : Array Value) (w : World), (Instr.makeFunc fn first cap).run Try.prog w = .ok (.func fn first cap) w := fun _ _ _ _ => rfl
  have hc : Calls Try.prog 87 #[.pointer (some ⟨g, 0, none⟩), .func (.func 88) #[] #[.pointer (some ⟨w.heap.size, 0, none⟩), .pointer (some ⟨w.heap.size + 1, 0, none⟩)]] W (MethPost Value.string g b (rdrStep ⟨#[]⟩ (textR (b.data.toList.drop p) most.toNat) p e) W) := by
    by_cases he : e = 0
    · subst he
      exact (faceS_any g b p 88 #[.pointer (some ⟨w.heap.size, 0, none⟩), .pointer (some ⟨w.heap.size + 1, 0, none⟩)] (textR (b.data.toList.drop p) most.toNat) W hRW (fun _ => rfl) (fun wx hx hbx => text_lit w.heap.size (w.heap.size + 1) g b p most wx (hbx.block _ (by omega) |>.trans b0) (hbx.block _ (by omega) |>.trans b1) hx hp hb hm)).mono fun _ _ h => meth_of_face h
    · exact (faceS_fault g b p e _ W hRW he).mono fun _ _ h => meth_of_fault he h
  generalize rdrStep ⟨#[]⟩ (textR (b.data.toList.drop p) most.toNat) p e = R at hc ⊢
  have HC := Lib.hid hc
  have HW := Lib.hid hW
  clear hc hW b0 b1
  go_enter Try.func66, Try.ntmps66
  go_wp2_with fail
  rw [← HW.out]
  refine HC.out.mono ?_
  obtain ⟨v, q, f⟩ := R
  rintro x w1 ⟨rfl, hR1, hg1⟩
  go_wp2
  go_ret
  exact ⟨rfl, hR1, only_trans hgW hg1⟩

set_option maxHeartbeats 1000000 in
theorem rBits (g : Nat) (b : ByteArray) (p : Nat) (e : Int)  (w : World) (hR : Rdr w g b p e) (hp : p ≤ b.size) (hb : b.size < 4294967296)  :
    Calls Try.prog 72 #[.pointer (some ⟨g, 0, none⟩)] w (MethPost (Value.int .u64) g b (rdrStep 0 (bitsR (b.data.toList.drop p)) p e) w) := by
  obtain ⟨W, hW⟩ : ∃ W, W = (w.alloc (.cells #[.pointer (some ⟨g, 0, none⟩)] 70)) := ⟨_, rfl⟩
  have b0 : W.heap[w.heap.size]? = some (.cells #[.pointer (some ⟨g, 0, none⟩)] 70 (0, 0)) := by rw [hW]; exact heap_alloc_new _ _
  have hRW : Rdr W g b p e := by rw [hW]; exact hR.alloc _
  have hBW : Below w.heap.size w W := by rw [hW]; exact (Below.refl _ w).alloc (Nat.le_refl _) _
  have hsz : w.heap.size < W.heap.size := by rw [hW]; simp
  have hgW : w.grownBy W (some g) := only_of_below hBW _
  have hmf : ∀ (fn : Fn) (first cap : Array Value) (w : World), (Instr.makeFunc fn first cap).run Try.prog w = .ok (.func fn first cap) w := fun _ _ _ _ => rfl
  have hc : Calls Try.prog 29 #[.pointer (some ⟨g, 0, none⟩), .func (.func 93) #[] #[.pointer (some ⟨w.heap.size, 0, none⟩)]] W (MethPost (Value.int .u64) g b (rdrStep 0 (bitsR (b.data.toList.drop p)) p e) W) := by
    by_cases he : e = 0
    · subst he
      exact (faceU_any g b p 93 #[.pointer (some ⟨w.heap.size, 0, none⟩)] (bitsR (b.data.toList.drop p)) W hRW (fun _ => rfl) (fun wx hx hbx => bits_lit w.heap.size g b p wx (hbx.block _ (by omega) |>.trans b0) hx hp hb)).mono fun _ _ h => meth_of_face h
    · exact (faceU_fault g b p e _ W hRW he).mono fun _ _ h => meth_of_fault he h
  generalize rdrStep 0 (bitsR (b.data.toList.drop p)) p e = R at hc ⊢
  have HC := Lib.hid hc
  have HW := Lib.hid hW
  clear hc hW b0 
  go_enter Try.func72, Try.ntmps72
  go_wp2_with fail
  rw [← HW.out]
  refine HC.out.mono ?_
  obtain ⟨v, q, f⟩ := R
  rintro x w1 ⟨rfl, hR1, hg1⟩
  go_wp2
  go_ret
  exact ⟨rfl, hR1, only_trans hgW hg1⟩

end Go.Proofs.Ytpnfdmglhonkmaa
