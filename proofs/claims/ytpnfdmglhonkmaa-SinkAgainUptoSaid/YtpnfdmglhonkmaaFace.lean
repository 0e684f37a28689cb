/- pack.face: a call that reads; what it gives up with is the fault. The deferred function, and face at its three types. -/
import Derived.Test.YtpnfdmglhonkmaaNumber
import Derived.Test.YtpnfdmglhonkmaaRecover
set_option maxRecDepth 100000
namespace Go.Proofs.Ytpnfdmglhonkmaa
open Go.RowKit

theorem ta_yes (c : Int) (w : World) : (Instr.typeAssert (.iface 116 (.agg #[.int .i64 c])) 20 116 true).run Try.prog w = .ok (.tuple #[.agg #[.int .i64 c], .bool true]) w := by kernel_rfl
theorem ta_no (w : World) : (Instr.typeAssert .nilIface 20 116 true).run Try.prog w = .ok (.tuple #[.agg #[.int .i64 0], .bool false]) w := by kernel_rfl

theorem block_far {w : World} {k : Nat} {o : Obj} (h : w.heap[k]? = some o) {a : Addr} (ha : k ≠ a.block) (u : Value) : (w.setCell a u).heap[k]? = some o := (Below.heap_setCell w a u k ha).trans h
theorem block_alloc {w : World} {k : Nat} {o : Obj} (h : w.heap[k]? = some o) (x : Obj) : (w.alloc x).heap[k]? = some o := (Below.heap_alloc w x k (lt_of_block h)).trans h

/-- what a function that reads comes to: a value and how many bytes it took, or what it gives up with -/
def ReadPost {α : Type} (mk : α → Value) (g : Nat) (b : ByteArray) (p : Nat) (r : Except Int (α × Nat)) (w : World) (x : Ending) (w' : World) : Prop :=
  match r with
  | .ok (v, k) => x = .returned (mk v) ∧ Rdr w' g b (p + k) 0 ∧ w.grownBy w' (some g)
  | .error c => x = .panicked (gave c) ∧ (∃ q, Rdr w' g b q 0) ∧ w.grownBy w' (some g)

/-- .. and what a call of a reader comes to -/
def FacePost {α : Type} (mk : α → Value) (zero : α) (g : Nat) (b : ByteArray) (p : Nat) (r : Except Int (α × Nat)) (w : World) (x : Ending) (w' : World) : Prop :=
  match r with
  | .ok (v, k) => x = .returned (mk v) ∧ Rdr w' g b (p + k) 0 ∧ w.grownBy w' (some g)
  | .error c => x = .returned (mk zero) ∧ Rdr w' g b p c ∧ w.grownBy w' (some g)

set_option maxHeartbeats 1000000 in
theorem catchU_panicking (fb rb xb g p q : Nat) (b : ByteArray) (e c : Int) (v : Value) (older : List PanicEntry) (w : World)
    (hF : w.heap[fb]? = some (.cells #[.int .i64 (p : Int)] 3 (0, 0))) (hB : w.heap[rb]? = some (.cells #[.pointer (some ⟨g, 0, none⟩)] 70 (0, 0)))
    (hX : w.heap[xb]? = some (.cells #[v] 41 (0, 0))) (hR : Rdr w g b q e) (hne : g ≠ xb ∧ g ≠ rb ∧ g ≠ fb ∧ xb ≠ rb ∧ xb ≠ fb ∧ rb ≠ fb) :
    CallsD Try.prog 57 #[.pointer (some ⟨fb, 0, none⟩), .pointer (some ⟨rb, 0, none⟩), .pointer (some ⟨xb, 0, none⟩)] (.panicking ({ v := .iface 116 (.agg #[.int .i64 c]), recovered := false } :: older)) w fun x u' w' =>
      u' = .panicking ({ v := .iface 116 (.agg #[.int .i64 c]), recovered := true } :: older) ∧ x = .returned (.tuple #[]) ∧ Rdr w' g b p c ∧ w'.heap[xb]? = some (.cells #[(Value.int .u64 0)] 41 (0, 0)) ∧ Turns [g, xb] w w' := by
  have h1 := cell_of_one hF
  have h2 := cell_of_one hB
  have h3 := cell_of_one hX
  have h3f := free_of_one hX
  have l1 := lt_of_block hF
  have l2 := lt_of_block hB
  have l3 := lt_of_block hX
  have l4 := hR.lt
  have r1 := hR.c1
  have r2 := hR.c2
  have r1f := hR.fz 1
  have r2f := hR.fz 2
  have hta := ta_yes c
  obtain ⟨n1, n2, n3, n4, n5, n6⟩ := hne
  refine callsD_recover Try.func57 rfl rfl (fun a => rfl) ?_
  simp only [Try.ntmps57, List.size_toArray, List.length_cons, List.length_nil, Nat.reduceAdd, Nat.reduceSub, Array.replicate_succ, Array.replicate_zero, List.push_toArray, List.append_toArray, List.nil_append, List.cons_append, thrown, Act.put, List.setIfInBounds_toArray, List.set_cons_zero, List.set_cons_succ]
  have HX := Lib.hid hX
  clear hF hB hX
  go_wp2
  go_region
  go_end0
  refine ⟨rfl, ((((hR.set1 p).set2 c).far (a := ⟨xb, 0, none⟩) n1 _).alloc _).drew, ?_, (((((Turns.refl _ w).set (.inl (by simp)) _).set (.inl (by simp)) _).set (.inl (by simp)) _).alloc _).drew⟩
  exact block_alloc (one_setCell (block_far (block_far HX.out (a := ⟨g, 1, none⟩) (by simpa using n1.symm) _) (a := ⟨g, 2, none⟩) (by simpa using n1.symm) _)) _

set_option maxHeartbeats 400000 in
theorem catchU_returning (f0 r0 x0 : Value) (w : World) :
    CallsD Try.prog 57 #[f0, r0, x0] .returning w fun x u' w' => u' = .returning ∧ x = .returned (.tuple #[]) ∧ w' = w.alloc (.cells #[.int .i64 0] 116) := by
  have hta := ta_no
  refine callsD_recover Try.func57 rfl rfl (fun a => rfl) ?_
  simp only [Try.ntmps57, List.size_toArray, List.length_cons, List.length_nil, Nat.reduceAdd, Nat.reduceSub, Array.replicate_succ, Array.replicate_zero, List.push_toArray, List.append_toArray, List.nil_append, List.cons_append, thrown, Act.put, List.setIfInBounds_toArray, List.set_cons_zero, List.set_cons_succ]
  go_wp2
  go_end0
  exact ⟨rfl, rfl⟩

set_option maxHeartbeats 1000000 in
theorem faceU_fault (g : Nat) (b : ByteArray) (p : Nat) (e : Int) (cl : Value) (w : World) (hR : Rdr w g b p e) (he : e ≠ 0) :
    Calls Try.prog 29 #[.pointer (some ⟨g, 0, none⟩), cl] w fun x w' => x = .returned (Value.int .u64 0) ∧ Rdr w' g b p e ∧ w.grownBy w' (some g) := by
  have l4 := hR.lt
  have r2 := hR.c2
  have hb : (!(e == 0)) = true := by simpa using he
  have hb2 : (e == 0) = false := by simpa using he
  go_enter_defers Try.func29, Try.ntmps29
  go_wp2
  simp [bodyPostD, Leaves, results, Try.results29, go_sem]
  exact ⟨(hR.alloc _).alloc _, only_alloc (only_alloc (only_refl _ _) _) _⟩

set_option maxHeartbeats 1000000 in
theorem faceU_any (g : Nat) (b : ByteArray) (p : Nat) (F : Nat) (caps : Array Value) (r : Except Int (Int × Nat)) (w : World) (hR : Rdr w g b p 0) (hen : ∀ w : World, (callFunc F caps).run Try.prog w = .ok (.enter F caps) w)
    (hcl : ∀ wx, Rdr wx g b p 0 → Below w.heap.size w wx → Calls Try.prog F caps wx (ReadPost (Value.int .u64) g b p r wx)) :
    Calls Try.prog 29 #[.pointer (some ⟨g, 0, none⟩), .func (.func F) #[] caps] w (FacePost (Value.int .u64) 0 g b p r w) := by
  have l4 := hR.lt
  have r2 := hR.c2
  have r1 := hR.c1
  have HCL := Lib.hid hcl
  clear hcl
  have hmf : ∀ (fn : Fn) (first cap : Array Value) (w : World), (Instr.makeFunc fn first cap).run Try.prog w = .ok (.func fn first cap) w := fun _ _ _ _ => rfl
  obtain ⟨W, hW⟩ : ∃ W, W = ((w.alloc (.cells #[.pointer (some ⟨g, 0, none⟩)] 70)).alloc (.cells #[(Value.int .u64 0)] 41)).alloc (.cells #[.int .i64 (p : Int)] 3) := ⟨_, rfl⟩
  have a0 : (w.alloc (.cells #[.pointer (some ⟨g, 0, none⟩)] 70)).heap[w.heap.size]? = some (.cells #[.pointer (some ⟨g, 0, none⟩)] 70 (0, 0)) := heap_alloc_new _ _
  have b0 : W.heap[w.heap.size]? = some (.cells #[.pointer (some ⟨g, 0, none⟩)] 70 (0, 0)) := by rw [hW]; exact block_alloc (block_alloc a0 _) _
  have b1 : W.heap[w.heap.size + 1]? = some (.cells #[(Value.int .u64 0)] 41 (0, 0)) := by
    rw [hW]; refine block_alloc ?_ _
    have h := heap_alloc_new (w.alloc (.cells #[.pointer (some ⟨g, 0, none⟩)] 70)) (.cells #[(Value.int .u64 0)] 41)
    simpa using h
  have b2 : W.heap[w.heap.size + 1 + 1]? = some (.cells #[.int .i64 (p : Int)] 3 (0, 0)) := by
    rw [hW]
    have h := heap_alloc_new ((w.alloc (.cells #[.pointer (some ⟨g, 0, none⟩)] 70)).alloc (.cells #[(Value.int .u64 0)] 41)) (.cells #[.int .i64 (p : Int)] 3)
    simpa using h
  have hRW : Rdr W g b p 0 := by rw [hW]; exact ((hR.alloc _).alloc _).alloc _
  have hBW : Below w.heap.size w W := by rw [hW]; exact (((Below.refl _ w).alloc (Nat.le_refl _) _).alloc (by simp) _).alloc (by simp; omega) _
  have hTW : Turns [g] w W := Turns.of_below hBW
  have HC := HCL.out W hRW hBW
  have HHC := Lib.hid HC
  have HB := Lib.hid (And.intro b0 (And.intro b1 b2))
  have HT := Lib.hid hTW
  have HW := Lib.hid hW
  clear HCL HC b0 b1 b2 a0 hBW hTW hW
  go_enter_defers Try.func29, Try.ntmps29
  go_wp2_with fail
  rw [← HW.out]
  refine HHC.out.mono ?_
  obtain ⟨b0, b1, b2⟩ := HB.out
  cases r with
  | error c =>
    rintro x w1 ⟨rfl, ⟨q, hR1⟩, hg1⟩
    have k0 := Turns.keep (Turns.of_only hg1) b0 (by simp; omega)
    have k1 := Turns.keep (Turns.of_only hg1) b1 (by simp; omega)
    have k2 := Turns.keep (Turns.of_only hg1) b2 (by simp; omega)
    refine leaves_cons (f := 57) (args := #[.pointer (some ⟨w.heap.size + 1 + 1, 0, none⟩), .pointer (some ⟨w.heap.size, 0, none⟩), .pointer (some ⟨w.heap.size + 1, 0, none⟩)]) (by simp) (by simp [go_sem]) ?_
    refine (catchU_panicking (w.heap.size + 1 + 1) w.heap.size (w.heap.size + 1) g p q b 0 c _ [] w1 k2 k0 k1 hR1 (by omega)).mono ?_
    rintro x u' w2 ⟨rfl, rfl, hR2, hX2, hT2⟩
    have hc2 := cell_of_one hX2
    have hfin : w.grownBy w2 (some g) := ((((HT.out.trans (Turns.of_only hg1)).mono (S' := [g, w.heap.size + 1]) (by intro x hx; left; simp at hx ⊢; exact .inl hx)).trans hT2).mono (S' := [g]) (by intro x hx; simp at hx ⊢; omega)).only
    clear k0 k1 k2 b0 b1 b2
    simp [Leaves, settle, results, Try.results29, go_sem, hc2]
    exact ⟨rfl, hR2, hfin⟩
  | ok vk =>
    obtain ⟨v, k⟩ := vk
    rintro x w1 ⟨rfl, hR1, hg1⟩
    have k1 := Turns.keep (Turns.of_only hg1) b1 (by simp; omega)
    have kc := cell_of_one k1
    have kf := free_of_one k1
    simp only []
    go_wp2
    refine leaves_cons (f := 57) (args := #[.pointer (some ⟨w.heap.size + 1 + 1, 0, none⟩), .pointer (some ⟨w.heap.size, 0, none⟩), .pointer (some ⟨w.heap.size + 1, 0, none⟩)]) (by simp) (by simp [go_sem]) ?_
    refine (catchU_returning _ _ _ _).mono ?_
    rintro x u' w2 ⟨rfl, rfl, rfl⟩
    have hl1 := lt_of_block k1
    have hc2 := cell_of_one (block_alloc (one_setCell k1 (u := Value.int .u64 v)) (.cells #[.int .i64 0] 116))
    have hne : g ≠ w.heap.size + 1 := by omega
    have hfin : w.grownBy ((w1.setCell ⟨w.heap.size + 1, 0, none⟩ (Value.int .u64 v)).alloc (.cells #[.int .i64 0] 116)) (some g) := (((HT.out.trans (Turns.of_only hg1)).set (p := ⟨w.heap.size + 1, 0, none⟩) (.inr (by simp)) (Value.int .u64 v)).alloc _).only
    have hR2 := (hR1.far (a := ⟨w.heap.size + 1, 0, none⟩) hne (Value.int .u64 v)).alloc (.cells #[.int .i64 0] 116)
    clear k1 kc kf b0 b1 b2
    simp only [Leaves, settle]
    refine ⟨_, ?_, rfl, hR2, hfin⟩
    simp [results, Try.results29, go_sem, hc2]




set_option maxHeartbeats 1000000 in
theorem catchS_panicking (fb rb xb g p q : Nat) (b : ByteArray) (e c : Int) (v : Value) (older : List PanicEntry) (w : World)
    (hF : w.heap[fb]? = some (.cells #[.int .i64 (p : Int)] 3 (0, 0))) (hB : w.heap[rb]? = some (.cells #[.pointer (some ⟨g, 0, none⟩)] 70 (0, 0)))
    (hX : w.heap[xb]? = some (.cells #[v] 9 (0, 0))) (hR : Rdr w g b q e) (hne : g ≠ xb ∧ g ≠ rb ∧ g ≠ fb ∧ xb ≠ rb ∧ xb ≠ fb ∧ rb ≠ fb) :
    CallsD Try.prog 95 #[.pointer (some ⟨fb, 0, none⟩), .pointer (some ⟨rb, 0, none⟩), .pointer (some ⟨xb, 0, none⟩)] (.panicking ({ v := .iface 116 (.agg #[.int .i64 c]), recovered := false } :: older)) w fun x u' w' =>
      u' = .panicking ({ v := .iface 116 (.agg #[.int .i64 c]), recovered := true } :: older) ∧ x = .returned (.tuple #[]) ∧ Rdr w' g b p c ∧ w'.heap[xb]? = some (.cells #[(Value.string ⟨#[]⟩)] 9 (0, 0)) ∧ Turns [g, xb] w w' := by
  have h1 := cell_of_one hF
  have h2 := cell_of_one hB
  have h3 := cell_of_one hX
  have h3f := free_of_one hX
  have l1 := lt_of_block hF
  have l2 := lt_of_block hB
  have l3 := lt_of_block hX
  have l4 := hR.lt
  have r1 := hR.c1
  have r2 := hR.c2
  have r1f := hR.fz 1
  have r2f := hR.fz 2
  have hta := ta_yes c
  obtain ⟨n1, n2, n3, n4, n5, n6⟩ := hne
  refine callsD_recover Try.func95 rfl rfl (fun a => rfl) ?_
  simp only [Try.ntmps95, List.size_toArray, List.length_cons, List.length_nil, Nat.reduceAdd, Nat.reduceSub, Array.replicate_succ, Array.replicate_zero, List.push_toArray, List.append_toArray, List.nil_append, List.cons_append, thrown, Act.put, List.setIfInBounds_toArray, List.set_cons_zero, List.set_cons_succ]
  have HX := Lib.hid hX
  clear hF hB hX
  go_wp2
  go_region
  go_end0
  refine ⟨rfl, ((((hR.set1 p).set2 c).far (a := ⟨xb, 0, none⟩) n1 _).alloc _).drew, ?_, (((((Turns.refl _ w).set (.inl (by simp)) _).set (.inl (by simp)) _).set (.inl (by simp)) _).alloc _).drew⟩
  exact block_alloc (one_setCell (block_far (block_far HX.out (a := ⟨g, 1, none⟩) (by simpa using n1.symm) _) (a := ⟨g, 2, none⟩) (by simpa using n1.symm) _)) _

set_option maxHeartbeats 400000 in
theorem catchS_returning (f0 r0 x0 : Value) (w : World) :
    CallsD Try.prog 95 #[f0, r0, x0] .returning w fun x u' w' => u' = .returning ∧ x = .returned (.tuple #[]) ∧ w' = w.alloc (.cells #[.int .i64 0] 116) := by
  have hta := ta_no
  refine callsD_recover Try.func95 rfl rfl (fun a => rfl) ?_
  simp only [Try.ntmps95, List.size_toArray, List.length_cons, List.length_nil, Nat.reduceAdd, Nat.reduceSub, Array.replicate_succ, Array.replicate_zero, List.push_toArray, List.append_toArray, List.nil_append, List.cons_append, thrown, Act.put, List.setIfInBounds_toArray, List.set_cons_zero, List.set_cons_succ]
  go_wp2
  go_end0
  exact ⟨rfl, rfl⟩

set_option maxHeartbeats 1000000 in
theorem faceS_fault (g : Nat) (b : ByteArray) (p : Nat) (e : Int) (cl : Value) (w : World) (hR : Rdr w g b p e) (he : e ≠ 0) :
    Calls Try.prog 87 #[.pointer (some ⟨g, 0, none⟩), cl] w fun x w' => x = .returned (Value.string ⟨#[]⟩) ∧ Rdr w' g b p e ∧ w.grownBy w' (some g) := by
  have l4 := hR.lt
  have r2 := hR.c2
  have hb : (!(e == 0)) = true := by simpa using he
  have hb2 : (e == 0) = false := by simpa using he
  go_enter_defers Try.func87, Try.ntmps87
  go_wp2
  simp [bodyPostD, Leaves, results, Try.results87, go_sem]
  exact ⟨(hR.alloc _).alloc _, only_alloc (only_alloc (only_refl _ _) _) _⟩

set_option maxHeartbeats 1000000 in
theorem faceS_any (g : Nat) (b : ByteArray) (p : Nat) (F : Nat) (caps : Array Value) (r : Except Int (ByteArray × Nat)) (w : World) (hR : Rdr w g b p 0) (hen : ∀ w : World, (callFunc F caps).run Try.prog w = .ok (.enter F caps) w)
    (hcl : ∀ wx, Rdr wx g b p 0 → Below w.heap.size w wx → Calls Try.prog F caps wx (ReadPost (Value.string) g b p r wx)) :
    Calls Try.prog 87 #[.pointer (some ⟨g, 0, none⟩), .func (.func F) #[] caps] w (FacePost (Value.string) ⟨#[]⟩ g b p r w) := by
  have l4 := hR.lt
  have r2 := hR.c2
  have r1 := hR.c1
  have HCL := Lib.hid hcl
  clear hcl
  have hmf : ∀ (fn : Fn) (first cap : Array Value) (w : World), (Instr.makeFunc fn first cap).run Try.prog w = .ok (.func fn first cap) w := fun _ _ _ _ => rfl
  obtain ⟨W, hW⟩ : ∃ W, W = ((w.alloc (.cells #[.pointer (some ⟨g, 0, none⟩)] 70)).alloc (.cells #[(Value.string ⟨#[]⟩)] 9)).alloc (.cells #[.int .i64 (p : Int)] 3) := ⟨_, rfl⟩
  have a0 : (w.alloc (.cells #[.pointer (some ⟨g, 0, none⟩)] 70)).heap[w.heap.size]? = some (.cells #[.pointer (some ⟨g, 0, none⟩)] 70 (0, 0)) := heap_alloc_new _ _
  have b0 : W.heap[w.heap.size]? = some (.cells #[.pointer (some ⟨g, 0, none⟩)] 70 (0, 0)) := by rw [hW]; exact block_alloc (block_alloc a0 _) _
  have b1 : W.heap[w.heap.size + 1]? = some (.cells #[(Value.string ⟨#[]⟩)] 9 (0, 0)) := by
    rw [hW]; refine block_alloc ?_ _
    have h := heap_alloc_new (w.alloc (.cells #[.pointer (some ⟨g, 0, none⟩)] 70)) (.cells #[(Value.string ⟨#[]⟩)] 9)
    simpa using h
  have b2 : W.heap[w.heap.size + 1 + 1]? = some (.cells #[.int .i64 (p : Int)] 3 (0, 0)) := by
    rw [hW]
    have h := heap_alloc_new ((w.alloc (.cells #[.pointer (some ⟨g, 0, none⟩)] 70)).alloc (.cells #[(Value.string ⟨#[]⟩)] 9)) (.cells #[.int .i64 (p : Int)] 3)
    simpa using h
  have hRW : Rdr W g b p 0 := by rw [hW]; exact ((hR.alloc _).alloc _).alloc _
  have hBW : Below w.heap.size w W := by rw [hW]; exact (((Below.refl _ w).alloc (Nat.le_refl _) _).alloc (by simp) _).alloc (by simp; omega) _
  have hTW : Turns [g] w W := Turns.of_below hBW
  have HC := HCL.out W hRW hBW
  have HHC := Lib.hid HC
  have HB := Lib.hid (And.intro b0 (And.intro b1 b2))
  have HT := Lib.hid hTW
  have HW := Lib.hid hW
  clear HCL HC b0 b1 b2 a0 hBW hTW hW
  go_enter_defers Try.func87, Try.ntmps87
  go_wp2_with fail
  rw [← HW.out]
  refine HHC.out.mono ?_
  obtain ⟨b0, b1, b2⟩ := HB.out
  cases r with
  | error c =>
    rintro x w1 ⟨rfl, ⟨q, hR1⟩, hg1⟩
    have k0 := Turns.keep (Turns.of_only hg1) b0 (by simp; omega)
    have k1 := Turns.keep (Turns.of_only hg1) b1 (by simp; omega)
    have k2 := Turns.keep (Turns.of_only hg1) b2 (by simp; omega)
    refine leaves_cons (f := 95) (args := #[.pointer (some ⟨w.heap.size + 1 + 1, 0, none⟩), .pointer (some ⟨w.heap.size, 0, none⟩), .pointer (some ⟨w.heap.size + 1, 0, none⟩)]) (by simp) (by simp [go_sem]) ?_
    refine (catchS_panicking (w.heap.size + 1 + 1) w.heap.size (w.heap.size + 1) g p q b 0 c _ [] w1 k2 k0 k1 hR1 (by omega)).mono ?_
    rintro x u' w2 ⟨rfl, rfl, hR2, hX2, hT2⟩
    have hc2 := cell_of_one hX2
    have hfin : w.grownBy w2 (some g) := ((((HT.out.trans (Turns.of_only hg1)).mono (S' := [g, w.heap.size + 1]) (by intro x hx; left; simp at hx ⊢; exact .inl hx)).trans hT2).mono (S' := [g]) (by intro x hx; simp at hx ⊢; omega)).only
    clear k0 k1 k2 b0 b1 b2
    simp [Leaves, settle, results, Try.results87, go_sem, hc2]
    exact ⟨rfl, hR2, hfin⟩
  | ok vk =>
    obtain ⟨v, k⟩ := vk
    rintro x w1 ⟨rfl, hR1, hg1⟩
    have k1 := Turns.keep (Turns.of_only hg1) b1 (by simp; omega)
    have kc := cell_of_one k1
    have kf := free_of_one k1
    simp only []
    go_wp2
    refine leaves_cons (f := 95) (args := #[.pointer (some ⟨w.heap.size + 1 + 1, 0, none⟩), .pointer (some ⟨w.heap.size, 0, none⟩), .pointer (some ⟨w.heap.size + 1, 0, none⟩)]) (by simp) (by simp [go_sem]) ?_
    refine (catchS_returning _ _ _ _).mono ?_
    rintro x u' w2 ⟨rfl, rfl, rfl⟩
    have hl1 := lt_of_block k1
    have hc2 := cell_of_one (block_alloc (one_setCell k1 (u := Value.string v)) (.cells #[.int .i64 0] 116))
    have hne : g ≠ w.heap.size + 1 := by omega
    have hfin : w.grownBy ((w1.setCell ⟨w.heap.size + 1, 0, none⟩ (Value.string v)).alloc (.cells #[.int .i64 0] 116)) (some g) := (((HT.out.trans (Turns.of_only hg1)).set (p := ⟨w.heap.size + 1, 0, none⟩) (.inr (by simp)) (Value.string v)).alloc _).only
    have hR2 := (hR1.far (a := ⟨w.heap.size + 1, 0, none⟩) hne (Value.string v)).alloc (.cells #[.int .i64 0] 116)
    clear k1 kc kf b0 b1 b2
    simp only [Leaves, settle]
    refine ⟨_, ?_, rfl, hR2, hfin⟩
    simp [results, Try.results87, go_sem, hc2]
end Go.Proofs.Ytpnfdmglhonkmaa
