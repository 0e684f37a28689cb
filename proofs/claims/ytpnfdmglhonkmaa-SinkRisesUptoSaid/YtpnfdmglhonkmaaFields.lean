/- wire.fields: the fields of a kind, as a slice of closures over boxes. -/
import Derived.Test.YtpnfdmglhonkmaaFieldRes
import Derived.Laws.EntriesVeiled
set_option maxRecDepth 100000
namespace Go.Proofs.Ytpnfdmglhonkmaa
open Go.RowKit

def fn0 (k : Nat) : Value := .func (.func k) #[] #[]
def ptr (b : Nat) : Value := .pointer (some ⟨b, 0, none⟩)

def FieldV (w : World) (lo hi : Nat) (f : Fd) (v1 v2 v3 : Value) : Prop :=
  match f with
  | .whole k l h => ∃ b1 b2 b3, (lo ≤ b1 ∧ b1 < hi) ∧ (lo ≤ b2 ∧ b2 < hi) ∧ (lo ≤ b3 ∧ b3 < hi) ∧ v1 = .func (.func 59) #[] #[ptr b1, ptr b2, ptr b3] ∧ v2 = .func (.func 60) #[] #[ptr b1] ∧ v3 = .func (.func 61) #[] #[ptr b1]
      ∧ Cells w b1 96 #[fn0 (accI k)] ∧ Cells w b2 3 #[.int .i64 l] ∧ Cells w b3 3 #[.int .i64 h]
  | .text k l h => ∃ b1 b2 b3, (lo ≤ b1 ∧ b1 < hi) ∧ (lo ≤ b2 ∧ b2 < hi) ∧ (lo ≤ b3 ∧ b3 < hi) ∧ v1 = .func (.func 62) #[] #[ptr b1, ptr b2, ptr b3] ∧ v2 = .func (.func 63) #[] #[ptr b1] ∧ v3 = .func (.func 65) #[] #[ptr b3, ptr b1]
      ∧ Cells w b1 100 #[fn0 (accS k)] ∧ Cells w b2 3 #[.int .i64 l] ∧ Cells w b3 3 #[.int .i64 h]
  | .result => v1 = fn0 67 ∧ v2 = fn0 69 ∧ v3 = fn0 71

theorem FieldV.kept {w w' : World} {lo hi : Nat} {f : Fd} {v1 v2 v3 : Value} (h : FieldV w lo hi f v1 v2 v3) (hk : Kept lo hi w w') : FieldV w' lo hi f v1 v2 v3 := by
  cases f with
  | whole k l h' =>
    obtain ⟨b1, b2, b3, r1, r2, r3, e1, e2, e3, c1, c2, c3⟩ := h
    exact ⟨b1, b2, b3, r1, r2, r3, e1, e2, e3, hk.cells c1 r1.1 r1.2, hk.cells c2 r2.1 r2.2, hk.cells c3 r3.1 r3.2⟩
  | text k l h' =>
    obtain ⟨b1, b2, b3, r1, r2, r3, e1, e2, e3, c1, c2, c3⟩ := h
    exact ⟨b1, b2, b3, r1, r2, r3, e1, e2, e3, hk.cells c1 r1.1 r1.2, hk.cells c2 r2.1 r2.2, hk.cells c3 r3.1 r3.2⟩
  | result => exact h

theorem FieldV.wider {w : World} {lo hi lo' hi' : Nat} {f : Fd} {v1 v2 v3 : Value} (h : FieldV w lo hi f v1 v2 v3) (h1 : lo' ≤ lo) (h2 : hi ≤ hi') : FieldV w lo' hi' f v1 v2 v3 := by
  cases f with
  | whole k l h' =>
    obtain ⟨b1, b2, b3, r1, r2, r3, e⟩ := h
    exact ⟨b1, b2, b3, ⟨by omega, by omega⟩, ⟨by omega, by omega⟩, ⟨by omega, by omega⟩, e⟩
  | text k l h' =>
    obtain ⟨b1, b2, b3, r1, r2, r3, e⟩ := h
    exact ⟨b1, b2, b3, ⟨by omega, by omega⟩, ⟨by omega, by omega⟩, ⟨by omega, by omega⟩, e⟩
  | result => exact h

/-- a field made, in new blocks -/
def MadeField (f : Fd) (w : World) (x : Ending) (w' : World) : Prop :=
  ∃ v1 v2 v3, x = .returned (.agg #[v1, v2, v3]) ∧ FieldV w' w.heap.size w'.heap.size f v1 v2 v3 ∧ Below w.heap.size w w' ∧ (v1.oneCell' = true ∧ v2.oneCell' = true ∧ v3.oneCell' = true)

set_option maxHeartbeats 1000000 in
theorem whole_any (k : Nat) (l h : Int) (w : World) :
    Calls Try.prog 32 #[fn0 (accI k), .int .i64 l, .int .i64 h] w (MadeField (.whole k l h) w) := by
  have hmf : ∀ (fn : Fn) (first cap : Array Value) (w : World), (Instr.makeFunc fn first cap).run Try.prog w = .ok (.func fn first cap) w := fun _ _ _ _ => rfl
  unfold fn0
  have hfin : ∀ W v1 v2 v3, Cells W w.heap.size 96 #[fn0 (accI k)] → Cells W (w.heap.size + 1) 3 #[.int .i64 l] → Cells W (w.heap.size + 1 + 1) 3 #[.int .i64 h] → Below w.heap.size w W → W.heap.size = w.heap.size + 1 + 1 + 1 + 1 →
      v1 = .func (.func 59) #[] #[ptr w.heap.size, ptr (w.heap.size + 1), ptr (w.heap.size + 1 + 1)] → v2 = .func (.func 60) #[] #[ptr w.heap.size] → v3 = .func (.func 61) #[] #[ptr w.heap.size] →
      MadeField (.whole k l h) w (.returned (.agg #[v1, v2, v3])) W := by
    intro W v1 v2 v3 c1 c2 c3 hb hs e1 e2 e3
    exact ⟨v1, v2, v3, rfl, ⟨w.heap.size, w.heap.size + 1, w.heap.size + 1 + 1, ⟨by omega, by omega⟩, ⟨by omega, by omega⟩, ⟨by omega, by omega⟩, e1, e2, e3, c1, c2, c3⟩, hb, by rw [e1, e2, e3]; exact ⟨rfl, rfl, rfl⟩⟩
  have HF := Lib.hid hfin
  clear hfin
  have hK : fn0 (accI k) = .func (.func (accI k)) #[] #[] := rfl
  rw [hK] at HF
  clear hK
  generalize accI k = K at HF
  go_enter Try.func32, Try.ntmps32
  go_wp2
  generalize hW : World.alloc (World.alloc (World.alloc (World.alloc w _) _) _) _ = W
  have c1 : Cells W w.heap.size 96 #[.func (.func K) #[] #[]] := by
    rw [← hW]
    exact (((Cells.newAt _ _ _ _ rfl).alloc _).alloc _).alloc _
  have c2 : Cells W (w.heap.size + 1) 3 #[.int .i64 l] := by
    rw [← hW]
    exact ((Cells.newAt _ _ _ _ (by simp)).alloc _).alloc _
  have c3 : Cells W (w.heap.size + 1 + 1) 3 #[.int .i64 h] := by
    rw [← hW]
    exact (Cells.newAt _ _ _ _ (by simp)).alloc _
  have c4 : Cells W (w.heap.size + 1 + 1 + 1) 79 #[.func (.func 59) #[] #[ptr w.heap.size, ptr (w.heap.size + 1), ptr (w.heap.size + 1 + 1)], .func (.func 60) #[] #[ptr w.heap.size], .func (.func 61) #[] #[ptr w.heap.size]] := by
    rw [← hW]
    exact Cells.newAt _ _ _ _ (by simp)
  have hs : W.heap.size = w.heap.size + 1 + 1 + 1 + 1 := by rw [← hW]; simp
  have hb : Below w.heap.size w W := by
    rw [← hW]
    exact ((((Below.refl _ w).alloc (Nat.le_refl _) _).alloc (by simp) _).alloc (by simp <;> omega) _).alloc (by simp <;> omega) _
  have k0 := c4.cell (j := 0) rfl
  have k1 := c4.cell (j := 1) rfl
  have k2 := c4.cell (j := 2) rfl
  have hpost := HF.out W _ _ _ c1 c2 c3 hb hs rfl rfl rfl
  clear hW
  exact bodyPost_ret (v := .agg #[_, _, _]) (by simp [results, Try.results32, go_sem, k0, k1, k2]) rfl hpost

set_option maxHeartbeats 1000000 in
theorem text_any (k : Nat) (l h : Int) (w : World) :
    Calls Try.prog 41 #[fn0 (accS k), .int .i64 l, .int .i64 h] w (MadeField (.text k l h) w) := by
  have hmf : ∀ (fn : Fn) (first cap : Array Value) (w : World), (Instr.makeFunc fn first cap).run Try.prog w = .ok (.func fn first cap) w := fun _ _ _ _ => rfl
  unfold fn0
  have hfin : ∀ W v1 v2 v3, Cells W w.heap.size 100 #[fn0 (accS k)] → Cells W (w.heap.size + 1) 3 #[.int .i64 l] → Cells W (w.heap.size + 1 + 1) 3 #[.int .i64 h] → Below w.heap.size w W → W.heap.size = w.heap.size + 1 + 1 + 1 + 1 →
      v1 = .func (.func 62) #[] #[ptr w.heap.size, ptr (w.heap.size + 1), ptr (w.heap.size + 1 + 1)] → v2 = .func (.func 63) #[] #[ptr w.heap.size] → v3 = .func (.func 65) #[] #[ptr (w.heap.size + 1 + 1), ptr w.heap.size] →
      MadeField (.text k l h) w (.returned (.agg #[v1, v2, v3])) W := by
    intro W v1 v2 v3 c1 c2 c3 hb hs e1 e2 e3
    exact ⟨v1, v2, v3, rfl, ⟨w.heap.size, w.heap.size + 1, w.heap.size + 1 + 1, ⟨by omega, by omega⟩, ⟨by omega, by omega⟩, ⟨by omega, by omega⟩, e1, e2, e3, c1, c2, c3⟩, hb, by rw [e1, e2, e3]; exact ⟨rfl, rfl, rfl⟩⟩
  have HF := Lib.hid hfin
  clear hfin
  have hK : fn0 (accS k) = .func (.func (accS k)) #[] #[] := rfl
  rw [hK] at HF
  clear hK
  generalize accS k = K at HF
  go_enter Try.func41, Try.ntmps41
  go_wp2
  generalize hW : World.alloc (World.alloc (World.alloc (World.alloc w _) _) _) _ = W
  have c1 : Cells W w.heap.size 100 #[.func (.func K) #[] #[]] := by
    rw [← hW]
    exact (((Cells.newAt _ _ _ _ rfl).alloc _).alloc _).alloc _
  have c2 : Cells W (w.heap.size + 1) 3 #[.int .i64 l] := by
    rw [← hW]
    exact ((Cells.newAt _ _ _ _ (by simp)).alloc _).alloc _
  have c3 : Cells W (w.heap.size + 1 + 1) 3 #[.int .i64 h] := by
    rw [← hW]
    exact (Cells.newAt _ _ _ _ (by simp)).alloc _
  have c4 : Cells W (w.heap.size + 1 + 1 + 1) 79 #[.func (.func 62) #[] #[ptr w.heap.size, ptr (w.heap.size + 1), ptr (w.heap.size + 1 + 1)], .func (.func 63) #[] #[ptr w.heap.size], .func (.func 65) #[] #[ptr (w.heap.size + 1 + 1), ptr w.heap.size]] := by
    rw [← hW]
    exact Cells.newAt _ _ _ _ (by simp)
  have hs : W.heap.size = w.heap.size + 1 + 1 + 1 + 1 := by rw [← hW]; simp
  have hb : Below w.heap.size w W := by
    rw [← hW]
    exact ((((Below.refl _ w).alloc (Nat.le_refl _) _).alloc (by simp) _).alloc (by simp <;> omega) _).alloc (by simp <;> omega) _
  have k0 := c4.cell (j := 0) rfl
  have k1 := c4.cell (j := 1) rfl
  have k2 := c4.cell (j := 2) rfl
  have hpost := HF.out W _ _ _ c1 c2 c3 hb hs rfl rfl rfl
  clear hW
  exact bodyPost_ret (v := .agg #[_, _, _]) (by simp [results, Try.results41, go_sem, k0, k1, k2]) rfl hpost

set_option maxHeartbeats 1000000 in
theorem result_any (w : World) : Calls Try.prog 44 #[] w (MadeField .result w) := by
  go_enter Try.func44, Try.ntmps44
  go_wp2
  generalize hW : World.alloc _ _ = W
  have c4 : Cells W w.heap.size 79 #[fn0 67, fn0 69, fn0 71] := by
    rw [← hW]
    exact Cells.newAt _ _ _ _ rfl
  have hb : Below w.heap.size w W := by
    rw [← hW]
    exact (Below.refl _ w).alloc (Nat.le_refl _) _
  have k0 := c4.cell (j := 0) rfl
  have k1 := c4.cell (j := 1) rfl
  have k2 := c4.cell (j := 2) rfl
  clear hW
  exact bodyPost_ret (v := .agg #[fn0 _, fn0 _, fn0 _]) (by simp [results, Try.results44, go_sem, k0, k1, k2]) rfl ⟨_, _, _, rfl, ⟨rfl, rfl, rfl⟩, hb, rfl, rfl, rfl⟩

set_option maxHeartbeats 1000000 in
theorem index_any (most : Int) (w : World) : Calls Try.prog 37 #[.int .i64 most] w (MadeField (.whole 5 0 most) w) := by
  obtain ⟨W, hW⟩ : ∃ W, W = w.alloc (.cells #[.nilFunc, .nilFunc, .nilFunc] 79) := ⟨_, rfl⟩
  have hz : Cells W w.heap.size 79 #[.nilFunc, .nilFunc, .nilFunc] := by rw [hW]; exact Cells.newAt _ _ _ _ rfl
  have hs : W.heap.size = w.heap.size + 1 := by rw [hW]; simp
  have hb : Below w.heap.size w W := by rw [hW]; exact (Below.refl _ w).alloc (Nat.le_refl _) _
  have HW := Lib.hid hW
  have HS := Lib.hid hs
  clear hW hs
  go_enter Try.func37, Try.ntmps37
  go_wp2_with fail
  rw [← HW.out]
  refine (whole_any 5 0 most W).mono ?_
  rintro x w1 ⟨v1, v2, v3, rfl, ⟨b1, b2, b3, r1, r2, r3, rfl, rfl, rfl, c1, c2, c3⟩, hb1, _⟩
  have hz1 := hz.keep hb1
  have z0 := hz1.cell (j := 0) rfl
  have z1 := hz1.cell (j := 1) rfl
  have z2 := hz1.cell (j := 2) rfl
  have zf := fun j => hz1.fz j
  rw [HS.out] at r1 r2 r3
  go_wp2
  generalize hW2 : World.setCell _ _ _ = W2
  have q : Cells W2 w.heap.size 79 #[.func (.func 59) #[] #[ptr b1, ptr b2, ptr b3], .func (.func 60) #[] #[ptr b1], .func (.func 61) #[] #[ptr b1]] := by
    rw [← hW2]
    exact ((hz1.set 0 _).set 1 _).set 2 _
  have e1 : Cells W2 b1 96 #[fn0 (accI 5)] := by
    rw [← hW2]
    exact ((c1.far (by show b1 ≠ w.heap.size; omega) _).far (by show b1 ≠ w.heap.size; omega) _).far (by show b1 ≠ w.heap.size; omega) _
  have e2 : Cells W2 b2 3 #[.int .i64 0] := by
    rw [← hW2]
    exact ((c2.far (by show b2 ≠ w.heap.size; omega) _).far (by show b2 ≠ w.heap.size; omega) _).far (by show b2 ≠ w.heap.size; omega) _
  have e3 : Cells W2 b3 3 #[.int .i64 most] := by
    rw [← hW2]
    exact ((c3.far (by show b3 ≠ w.heap.size; omega) _).far (by show b3 ≠ w.heap.size; omega) _).far (by show b3 ≠ w.heap.size; omega) _
  have hB : Below w.heap.size w W2 := by
    rw [← hW2]
    exact (((hb.trans (hb1.mono (by rw [HS.out]; omega))).setCell (Nat.le_refl _) _).setCell (Nat.le_refl _) _).setCell (Nat.le_refl _) _
  have hsz : W2.heap.size = w1.heap.size := by rw [← hW2]; simp [World.setCell]
  have k0 := q.cell (j := 0) rfl
  have k1 := q.cell (j := 1) rfl
  have k2 := q.cell (j := 2) rfl
  clear hW2
  exact bodyPost_ret (v := .agg #[_, _, _]) (by simp [results, Try.results37, go_sem, k0, k1, k2]) rfl ⟨_, _, _, rfl, ⟨b1, b2, b3, ⟨by omega, by omega⟩, ⟨by omega, by omega⟩, ⟨by omega, by omega⟩, rfl, rfl, rfl, e1, e2, e3⟩, hB, rfl, rfl, rfl⟩

set_option maxHeartbeats 1000000 in
theorem count_any (most : Int) (w : World) : Calls Try.prog 39 #[.int .i64 most] w (MadeField (.whole 6 0 most) w) := by
  obtain ⟨W, hW⟩ : ∃ W, W = w.alloc (.cells #[.nilFunc, .nilFunc, .nilFunc] 79) := ⟨_, rfl⟩
  have hz : Cells W w.heap.size 79 #[.nilFunc, .nilFunc, .nilFunc] := by rw [hW]; exact Cells.newAt _ _ _ _ rfl
  have hs : W.heap.size = w.heap.size + 1 := by rw [hW]; simp
  have hb : Below w.heap.size w W := by rw [hW]; exact (Below.refl _ w).alloc (Nat.le_refl _) _
  have HW := Lib.hid hW
  have HS := Lib.hid hs
  clear hW hs
  go_enter Try.func39, Try.ntmps39
  go_wp2_with fail
  rw [← HW.out]
  refine (whole_any 6 0 most W).mono ?_
  rintro x w1 ⟨v1, v2, v3, rfl, ⟨b1, b2, b3, r1, r2, r3, rfl, rfl, rfl, c1, c2, c3⟩, hb1, _⟩
  have hz1 := hz.keep hb1
  have z0 := hz1.cell (j := 0) rfl
  have z1 := hz1.cell (j := 1) rfl
  have z2 := hz1.cell (j := 2) rfl
  have zf := fun j => hz1.fz j
  rw [HS.out] at r1 r2 r3
  go_wp2
  generalize hW2 : World.setCell _ _ _ = W2
  have q : Cells W2 w.heap.size 79 #[.func (.func 59) #[] #[ptr b1, ptr b2, ptr b3], .func (.func 60) #[] #[ptr b1], .func (.func 61) #[] #[ptr b1]] := by
    rw [← hW2]
    exact ((hz1.set 0 _).set 1 _).set 2 _
  have e1 : Cells W2 b1 96 #[fn0 (accI 6)] := by
    rw [← hW2]
    exact ((c1.far (by show b1 ≠ w.heap.size; omega) _).far (by show b1 ≠ w.heap.size; omega) _).far (by show b1 ≠ w.heap.size; omega) _
  have e2 : Cells W2 b2 3 #[.int .i64 0] := by
    rw [← hW2]
    exact ((c2.far (by show b2 ≠ w.heap.size; omega) _).far (by show b2 ≠ w.heap.size; omega) _).far (by show b2 ≠ w.heap.size; omega) _
  have e3 : Cells W2 b3 3 #[.int .i64 most] := by
    rw [← hW2]
    exact ((c3.far (by show b3 ≠ w.heap.size; omega) _).far (by show b3 ≠ w.heap.size; omega) _).far (by show b3 ≠ w.heap.size; omega) _
  have hB : Below w.heap.size w W2 := by
    rw [← hW2]
    exact (((hb.trans (hb1.mono (by rw [HS.out]; omega))).setCell (Nat.le_refl _) _).setCell (Nat.le_refl _) _).setCell (Nat.le_refl _) _
  have hsz : W2.heap.size = w1.heap.size := by rw [← hW2]; simp [World.setCell]
  have k0 := q.cell (j := 0) rfl
  have k1 := q.cell (j := 1) rfl
  have k2 := q.cell (j := 2) rfl
  clear hW2
  exact bodyPost_ret (v := .agg #[_, _, _]) (by simp [results, Try.results39, go_sem, k0, k1, k2]) rfl ⟨_, _, _, rfl, ⟨b1, b2, b3, ⟨by omega, by omega⟩, ⟨by omega, by omega⟩, ⟨by omega, by omega⟩, rfl, rfl, rfl, e1, e2, e3⟩, hB, rfl, rfl, rfl⟩

end Go.Proofs.Ytpnfdmglhonkmaa
