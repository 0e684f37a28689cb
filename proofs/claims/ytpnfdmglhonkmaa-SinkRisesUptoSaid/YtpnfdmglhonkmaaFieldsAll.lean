/- wire.fields, the whole walk. -/
import Derived.Test.YtpnfdmglhonkmaaFields
import Derived.Deep.Cut
set_option maxRecDepth 100000
namespace Go.Proofs.Ytpnfdmglhonkmaa
open Go.RowKit

abbrev Tr := Fd × Value × Value × Value
def Tr.cells (t : Tr) : List Value := [t.2.1, t.2.2.1, t.2.2.2]

theorem Tr.cells_at : ∀ (S : List Tr) (k j : Nat) (s : Tr), S[k]? = some s → j < 3 → (S.flatMap Tr.cells)[k * 3 + j]? = (Tr.cells s)[j]?
  | s :: t, 0, j, s', h, hj => by
    simp at h
    subst h
    rw [List.flatMap_cons, List.getElem?_append_left (by simp [Tr.cells]; omega)]
    simp
  | s :: t, k + 1, j, s', h, hj => by
    simp at h
    rw [List.flatMap_cons, List.getElem?_append_right (by simp [Tr.cells]; omega)]
    have := Tr.cells_at t k j s' h hj
    rw [← this]
    congr 1
    simp [Tr.cells]
    omega

/-- a slice of fields, in blocks from lo to hi -/
def FieldsAt (w : World) (lo hi : Nat) (A : Option Addr) (L : List Fd) : Prop :=
  L = [] ∨ ∃ g, A = some ⟨g, 0, none⟩ ∧ (lo ≤ g ∧ g < hi) ∧ ∀ (j : Nat) f, L[j]? = some f → ∃ v1 v2 v3, w.cell? ⟨g, j * 3, none⟩ = some v1 ∧ w.cell? ⟨g, j * 3 + 1, none⟩ = some v2 ∧ w.cell? ⟨g, j * 3 + 2, none⟩ = some v3 ∧ FieldV w lo hi f v1 v2 v3

theorem cell_kept {lo hi : Nat} {w w' : World} {x : Addr} (h : Kept lo hi w w') (h1 : lo ≤ x.block) (h2 : x.block < hi) : w'.cell? x = w.cell? x := by
  unfold World.cell?
  rw [h x.block h1 h2]

theorem FieldsAt.kept {w w' : World} {lo hi : Nat} {A : Option Addr} {L : List Fd} (h : FieldsAt w lo hi A L) (hk : Kept lo hi w w') : FieldsAt w' lo hi A L := by
  rcases h with h | ⟨g, e, hg, hc⟩
  · exact .inl h
  · refine .inr ⟨g, e, hg, fun j f hj => ?_⟩
    obtain ⟨v1, v2, v3, c1, c2, c3, hv⟩ := hc j f hj
    exact ⟨v1, v2, v3, (cell_kept hk hg.1 hg.2).trans c1, (cell_kept hk hg.1 hg.2).trans c2, (cell_kept hk hg.1 hg.2).trans c3, hv.kept hk⟩

theorem FieldsAt.get {w : World} {lo hi : Nat} {A : Option Addr} {L : List Fd} (h : FieldsAt w lo hi A L) {j : Nat} {f : Fd} (hj : L[j]? = some f) : ∃ g, A = some ⟨g, 0, none⟩ ∧ (lo ≤ g ∧ g < hi) ∧ ∃ v1 v2 v3, w.cell? ⟨g, j * 3, none⟩ = some v1 ∧ w.cell? ⟨g, j * 3 + 1, none⟩ = some v2 ∧ w.cell? ⟨g, j * 3 + 2, none⟩ = some v3 ∧ FieldV w lo hi f v1 v2 v3 := by
  rcases h with h | ⟨g, e, hg, hc⟩
  · rw [h] at hj
    simp at hj
  · exact ⟨g, e, hg, hc j f hj⟩

def MadeFields (L : List Fd) (w : World) (x : Ending) (w' : World) : Prop :=
  ∃ A, x = .returned (.slice A L.length L.length) ∧ FieldsAt w' w.heap.size w'.heap.size A L ∧ Below w.heap.size w w'

theorem madeFields {w w' : World} {g : Nat} {c : Array Value} (S : List Tr) (L : List Fd) (n : Nat) (hL : L = S.map (·.1)) (hn : n = L.length) (hc : Cells w' g 79 c) (hcs : c = (S.flatMap Tr.cells).toArray) (hg : w.heap.size ≤ g) (hv : ∀ t ∈ S, FieldV w' w.heap.size w'.heap.size t.1 t.2.1 t.2.2.1 t.2.2.2) (hb : Below w.heap.size w w') :
    MadeFields L w (.returned (.slice (some ⟨g, 0, none⟩) n n)) w' := by
  subst hn
  refine ⟨_, rfl, .inr ⟨g, rfl, ⟨hg, hc.lt⟩, fun j f hj => ?_⟩, hb⟩
  subst hL
  rw [List.getElem?_map] at hj
  cases hs : S[j]? with
  | none => rw [hs] at hj; cases hj
  | some t =>
    rw [hs] at hj
    injection hj with hj
    subst hj
    have h0 := Tr.cells_at S j 0 t hs (by omega)
    have h1 := Tr.cells_at S j 1 t hs (by omega)
    have h2 := Tr.cells_at S j 2 t hs (by omega)
    rw [hcs] at hc
    exact ⟨t.2.1, t.2.2.1, t.2.2.2, hc.cell (by simpa [Tr.cells] using h0), hc.cell (by simpa [Tr.cells] using h1), hc.cell (by simpa [Tr.cells] using h2), hv t (List.mem_of_getElem? hs)⟩

/-- a field in a block of its own -/
def FBox (w : World) (lo b : Nat) (f : Fd) (v1 v2 v3 : Value) : Prop := Cells w b 79 #[v1, v2, v3] ∧ lo ≤ b ∧ FieldV w lo w.heap.size f v1 v2 v3
theorem FBox.next {w w' : World} {lo b : Nat} {f : Fd} {v1 v2 v3 : Value} (h : FBox w lo b f v1 v2 v3) (hb : Below w.heap.size w w') : FBox w' lo b f v1 v2 v3 :=
  ⟨h.1.keep hb, h.2.1, (h.2.2.kept (Kept.of_below hb)).wider (Nat.le_refl _) hb.size⟩
theorem FBox.new {w u : World} {lo : Nat} {f : Fd} {v1 v2 v3 : Value} (h : FieldV w u.heap.size w.heap.size f v1 v2 v3) (hl : lo ≤ u.heap.size) (hs : u.heap.size ≤ w.heap.size) : FBox (w.alloc (.cells #[v1, v2, v3] 79)) lo w.heap.size f v1 v2 v3 :=
  ⟨Cells.new _ _ _, by omega, (h.kept (Kept.of_below ((Below.refl _ w).alloc (Nat.le_refl _) _))).wider hl (by simp)⟩
theorem below_new0 (w : World) (o : Obj) : Below w.heap.size w (w.alloc o) := (Below.refl _ w).alloc (Nat.le_refl _) _
theorem fields4 {w W Wf u : World} {lo hi bS bN bB : Nat} {vS1 vS2 vS3 vN1 vN2 vN3 vB1 vB2 vB3 u1 u2 u3 q1 q2 q3 : Value} (FS : FBox W w.heap.size bS fS vS1 vS2 vS3) (FN : FBox W w.heap.size bN fN vN1 vN2 vN3) (FB : FBox W w.heap.size bB fB vB1 vB2 vB3)
    (hF : Below W.heap.size W Wf) (hI : FieldV Wf w.heap.size Wf.heap.size (.whole 6 0 32) u1 u2 u3) (hR : FieldV u lo hi .result q1 q2 q3) (hB : Below w.heap.size w W) :
    MadeFields (fieldsOf 4) w (.returned (.slice (some ⟨Wf.heap.size, 0, none⟩) 5 5)) (Wf.alloc (.cells #[vS1, vS2, vS3, vN1, vN2, vN3, vB1, vB2, vB3, u1, u2, u3, q1, q2, q3] 79)) := by
  refine madeFields [(fS, vS1, vS2, vS3), (fN, vN1, vN2, vN3), (fB, vB1, vB2, vB3), (.whole 6 0 32, u1, u2, u3), (.result, q1, q2, q3)] _ 5 rfl rfl (Cells.new _ _ _) rfl (Nat.le_trans hB.size hF.size) ?_ ((hB.trans (hF.mono hB.size)).alloc (Nat.le_trans hB.size hF.size) _)
  intro t ht
  simp only [List.mem_cons, List.not_mem_nil, or_false] at ht
  rcases ht with rfl | rfl | rfl | rfl | rfl
  · exact ((FS.next hF).next (below_new0 _ _)).2.2
  · exact ((FN.next hF).next (below_new0 _ _)).2.2
  · exact ((FB.next hF).next (below_new0 _ _)).2.2
  · exact (hI.kept (Kept.of_below (below_new0 _ _))).wider (Nat.le_refl _) (by simp)
  · exact hR
theorem below_new (w : World) (o : Obj) : Below w.heap.size w (w.alloc o) := (Below.refl _ w).alloc (Nat.le_refl _) _

set_option maxHeartbeats 8000000 in
set_option maxRecDepth 100000 in
theorem fields_any (k : Nat) (w : World) (hk : k ≤ 16) :
    Calls Try.prog 23 #[.int .i64 (k : Int)] w (MadeFields (fieldsOf k) w) := by
  go_enter Try.func23, Try.ntmps23
  go_wp2_with fail
  refine (whole_any 1 1 1099511627776 _).mono ?_
  rintro x wS ⟨_, _, _, rfl, ⟨pS1, pS2, pS3, r1, r2, r3, rfl, rfl, rfl, c1, c2, c3⟩, hbS, _⟩
  have FS := FBox.new (lo := w.heap.size) (f := fS) ⟨pS1, pS2, pS3, r1, r2, r3, rfl, rfl, rfl, c1, c2, c3⟩ (Nat.le_refl _) hbS.size
  have hBS := (hbS).alloc hbS.size (.cells #[.func (.func 59) #[] #[ptr pS1, ptr pS2, ptr pS3], .func (.func 60) #[] #[ptr pS1], .func (.func 61) #[] #[ptr pS1]] 79)
  have hzS := hBS.size
  go_wp2_with fail
  refine (whole_any 2 1 1099511627776 _).mono ?_
  rintro x wN ⟨_, _, _, rfl, ⟨pN1, pN2, pN3, r1, r2, r3, rfl, rfl, rfl, c1, c2, c3⟩, hbN, _⟩
  have FN := FBox.new (lo := w.heap.size) (f := fN) ⟨pN1, pN2, pN3, r1, r2, r3, rfl, rfl, rfl, c1, c2, c3⟩ hzS hbN.size
  have FSN := (FS.next hbN).next (below_new wN (.cells #[.func (.func 59) #[] #[ptr pN1, ptr pN2, ptr pN3], .func (.func 60) #[] #[ptr pN1], .func (.func 61) #[] #[ptr pN1]] 79))
  clear FS
  have FS := FSN
  clear FSN
  have hBN := (hBS.trans (hbN.mono hzS)).alloc (Nat.le_trans hzS hbN.size) (.cells #[.func (.func 59) #[] #[ptr pN1, ptr pN2, ptr pN3], .func (.func 60) #[] #[ptr pN1], .func (.func 61) #[] #[ptr pN1]] 79)
  have hzN := hBN.size
  go_wp2_with fail
  refine (whole_any 3 1 8 _).mono ?_
  rintro x wJ ⟨_, _, _, rfl, ⟨pJ1, pJ2, pJ3, r1, r2, r3, rfl, rfl, rfl, c1, c2, c3⟩, hbJ, _⟩
  have FJ := FBox.new (lo := w.heap.size) (f := fJ) ⟨pJ1, pJ2, pJ3, r1, r2, r3, rfl, rfl, rfl, c1, c2, c3⟩ hzN hbJ.size
  have FSJ := (FS.next hbJ).next (below_new wJ (.cells #[.func (.func 59) #[] #[ptr pJ1, ptr pJ2, ptr pJ3], .func (.func 60) #[] #[ptr pJ1], .func (.func 61) #[] #[ptr pJ1]] 79))
  clear FS
  have FS := FSJ
  clear FSJ
  have FNJ := (FN.next hbJ).next (below_new wJ (.cells #[.func (.func 59) #[] #[ptr pJ1, ptr pJ2, ptr pJ3], .func (.func 60) #[] #[ptr pJ1], .func (.func 61) #[] #[ptr pJ1]] 79))
  clear FN
  have FN := FNJ
  clear FNJ
  have hBJ := (hBN.trans (hbJ.mono hzN)).alloc (Nat.le_trans hzN hbJ.size) (.cells #[.func (.func 59) #[] #[ptr pJ1, ptr pJ2, ptr pJ3], .func (.func 60) #[] #[ptr pJ1], .func (.func 61) #[] #[ptr pJ1]] 79)
  have hzJ := hBJ.size
  go_wp2_with fail
  refine (whole_any 4 1 1099511627776 _).mono ?_
  rintro x wB ⟨_, _, _, rfl, ⟨pB1, pB2, pB3, r1, r2, r3, rfl, rfl, rfl, c1, c2, c3⟩, hbB, _⟩
  have FB := FBox.new (lo := w.heap.size) (f := fB) ⟨pB1, pB2, pB3, r1, r2, r3, rfl, rfl, rfl, c1, c2, c3⟩ hzJ hbB.size
  have FSB := (FS.next hbB).next (below_new wB (.cells #[.func (.func 59) #[] #[ptr pB1, ptr pB2, ptr pB3], .func (.func 60) #[] #[ptr pB1], .func (.func 61) #[] #[ptr pB1]] 79))
  clear FS
  have FS := FSB
  clear FSB
  have FNB := (FN.next hbB).next (below_new wB (.cells #[.func (.func 59) #[] #[ptr pB1, ptr pB2, ptr pB3], .func (.func 60) #[] #[ptr pB1], .func (.func 61) #[] #[ptr pB1]] 79))
  clear FN
  have FN := FNB
  clear FNB
  have FJB := (FJ.next hbB).next (below_new wB (.cells #[.func (.func 59) #[] #[ptr pB1, ptr pB2, ptr pB3], .func (.func 60) #[] #[ptr pB1], .func (.func 61) #[] #[ptr pB1]] 79))
  clear FJ
  have FJ := FJB
  clear FJB
  have hBB := (hBJ.trans (hbB.mono hzJ)).alloc (Nat.le_trans hzJ hbB.size) (.cells #[.func (.func 59) #[] #[ptr pB1, ptr pB2, ptr pB3], .func (.func 60) #[] #[ptr pB1], .func (.func 61) #[] #[ptr pB1]] 79)
  have hzB := hBB.size
  go_wp2_with fail
  refine (text_any 9 0 32 _).mono ?_
  rintro x wT ⟨_, _, _, rfl, ⟨pT1, pT2, pT3, r1, r2, r3, rfl, rfl, rfl, c1, c2, c3⟩, hbT, _⟩
  have FT := FBox.new (lo := w.heap.size) (f := fT) ⟨pT1, pT2, pT3, r1, r2, r3, rfl, rfl, rfl, c1, c2, c3⟩ hzB hbT.size
  have FST := (FS.next hbT).next (below_new wT (.cells #[.func (.func 62) #[] #[ptr pT1, ptr pT2, ptr pT3], .func (.func 63) #[] #[ptr pT1], .func (.func 65) #[] #[ptr pT3, ptr pT1]] 79))
  clear FS
  have FS := FST
  clear FST
  have FNT := (FN.next hbT).next (below_new wT (.cells #[.func (.func 62) #[] #[ptr pT1, ptr pT2, ptr pT3], .func (.func 63) #[] #[ptr pT1], .func (.func 65) #[] #[ptr pT3, ptr pT1]] 79))
  clear FN
  have FN := FNT
  clear FNT
  have FJT := (FJ.next hbT).next (below_new wT (.cells #[.func (.func 62) #[] #[ptr pT1, ptr pT2, ptr pT3], .func (.func 63) #[] #[ptr pT1], .func (.func 65) #[] #[ptr pT3, ptr pT1]] 79))
  clear FJ
  have FJ := FJT
  clear FJT
  have FBT := (FB.next hbT).next (below_new wT (.cells #[.func (.func 62) #[] #[ptr pT1, ptr pT2, ptr pT3], .func (.func 63) #[] #[ptr pT1], .func (.func 65) #[] #[ptr pT3, ptr pT1]] 79))
  clear FB
  have FB := FBT
  clear FBT
  have hBT := (hBB.trans (hbT.mono hzB)).alloc (Nat.le_trans hzB hbT.size) (.cells #[.func (.func 62) #[] #[ptr pT1, ptr pT2, ptr pT3], .func (.func 63) #[] #[ptr pT1], .func (.func 65) #[] #[ptr pT3, ptr pT1]] 79)
  have hzT := hBT.size
  go_wp2_with fail
  refine (text_any 10 1 1024 _).mono ?_
  rintro x wP ⟨_, _, _, rfl, ⟨pP1, pP2, pP3, r1, r2, r3, rfl, rfl, rfl, c1, c2, c3⟩, hbP, _⟩
  have FP := FBox.new (lo := w.heap.size) (f := fP) ⟨pP1, pP2, pP3, r1, r2, r3, rfl, rfl, rfl, c1, c2, c3⟩ hzT hbP.size
  have FSP := (FS.next hbP).next (below_new wP (.cells #[.func (.func 62) #[] #[ptr pP1, ptr pP2, ptr pP3], .func (.func 63) #[] #[ptr pP1], .func (.func 65) #[] #[ptr pP3, ptr pP1]] 79))
  clear FS
  have FS := FSP
  clear FSP
  have FNP := (FN.next hbP).next (below_new wP (.cells #[.func (.func 62) #[] #[ptr pP1, ptr pP2, ptr pP3], .func (.func 63) #[] #[ptr pP1], .func (.func 65) #[] #[ptr pP3, ptr pP1]] 79))
  clear FN
  have FN := FNP
  clear FNP
  have FJP := (FJ.next hbP).next (below_new wP (.cells #[.func (.func 62) #[] #[ptr pP1, ptr pP2, ptr pP3], .func (.func 63) #[] #[ptr pP1], .func (.func 65) #[] #[ptr pP3, ptr pP1]] 79))
  clear FJ
  have FJ := FJP
  clear FJP
  have FBP := (FB.next hbP).next (below_new wP (.cells #[.func (.func 62) #[] #[ptr pP1, ptr pP2, ptr pP3], .func (.func 63) #[] #[ptr pP1], .func (.func 65) #[] #[ptr pP3, ptr pP1]] 79))
  clear FB
  have FB := FBP
  clear FBP
  have FTP := (FT.next hbP).next (below_new wP (.cells #[.func (.func 62) #[] #[ptr pP1, ptr pP2, ptr pP3], .func (.func 63) #[] #[ptr pP1], .func (.func 65) #[] #[ptr pP3, ptr pP1]] 79))
  clear FT
  have FT := FTP
  clear FTP
  have hBP := (hBT.trans (hbP.mono hzT)).alloc (Nat.le_trans hzT hbP.size) (.cells #[.func (.func 62) #[] #[ptr pP1, ptr pP2, ptr pP3], .func (.func 63) #[] #[ptr pP1], .func (.func 65) #[] #[ptr pP3, ptr pP1]] 79)
  have hzP := hBP.size
  go_upto_region 9 with (fail)
  clear hbS hbN hbJ hbB hbT hbP hBS hBN hBJ hBB hBT hzS hzN hzJ hzB hzT
  generalize World.alloc wP _ = W at FS FN FJ FB FT FP hBP hzP ⊢
  obtain ⟨bS, hbS⟩ : ∃ b, b = wS.heap.size := ⟨_, rfl⟩
  rw [← hbS] at FS ⊢
  clear hbS
  obtain ⟨vS1, vS2, vS3, FS⟩ : ∃ v1 v2 v3, FBox W w.heap.size bS fS v1 v2 v3 := ⟨_, _, _, FS⟩
  have kS0 := FS.1.cell (j := 0) rfl
  have kS1 := FS.1.cell (j := 1) rfl
  have kS2 := FS.1.cell (j := 2) rfl
  obtain ⟨bN, hbN⟩ : ∃ b, b = wN.heap.size := ⟨_, rfl⟩
  rw [← hbN] at FN ⊢
  clear hbN
  obtain ⟨vN1, vN2, vN3, FN⟩ : ∃ v1 v2 v3, FBox W w.heap.size bN fN v1 v2 v3 := ⟨_, _, _, FN⟩
  have kN0 := FN.1.cell (j := 0) rfl
  have kN1 := FN.1.cell (j := 1) rfl
  have kN2 := FN.1.cell (j := 2) rfl
  obtain ⟨bJ, hbJ⟩ : ∃ b, b = wJ.heap.size := ⟨_, rfl⟩
  rw [← hbJ] at FJ ⊢
  clear hbJ
  obtain ⟨vJ1, vJ2, vJ3, FJ⟩ : ∃ v1 v2 v3, FBox W w.heap.size bJ fJ v1 v2 v3 := ⟨_, _, _, FJ⟩
  have kJ0 := FJ.1.cell (j := 0) rfl
  have kJ1 := FJ.1.cell (j := 1) rfl
  have kJ2 := FJ.1.cell (j := 2) rfl
  obtain ⟨bB, hbB⟩ : ∃ b, b = wB.heap.size := ⟨_, rfl⟩
  rw [← hbB] at FB ⊢
  clear hbB
  obtain ⟨vB1, vB2, vB3, FB⟩ : ∃ v1 v2 v3, FBox W w.heap.size bB fB v1 v2 v3 := ⟨_, _, _, FB⟩
  have kB0 := FB.1.cell (j := 0) rfl
  have kB1 := FB.1.cell (j := 1) rfl
  have kB2 := FB.1.cell (j := 2) rfl
  obtain ⟨bT, hbT⟩ : ∃ b, b = wT.heap.size := ⟨_, rfl⟩
  rw [← hbT] at FT ⊢
  clear hbT
  obtain ⟨vT1, vT2, vT3, FT⟩ : ∃ v1 v2 v3, FBox W w.heap.size bT fT v1 v2 v3 := ⟨_, _, _, FT⟩
  have kT0 := FT.1.cell (j := 0) rfl
  have kT1 := FT.1.cell (j := 1) rfl
  have kT2 := FT.1.cell (j := 2) rfl
  obtain ⟨bP, hbP⟩ : ∃ b, b = wP.heap.size := ⟨_, rfl⟩
  rw [← hbP] at FP ⊢
  clear hbP
  obtain ⟨vP1, vP2, vP3, FP⟩ : ∃ v1 v2 v3, FBox W w.heap.size bP fP v1 v2 v3 := ⟨_, _, _, FP⟩
  have kP0 := FP.1.cell (j := 0) rfl
  have kP1 := FP.1.cell (j := 1) rfl
  have kP2 := FP.1.cell (j := 2) rfl
  have hWn := below_new W
  rcases (by omega : k = 0 ∨ k = 1 ∨ k = 2 ∨ k = 3 ∨ k = 4 ∨ k = 5 ∨ k = 6 ∨ k = 7 ∨ k = 8 ∨ k = 9 ∨ k = 10 ∨ k = 11 ∨ k = 12 ∨ k = 13 ∨ k = 14 ∨ k = 15 ∨ k = 16) with rfl | rfl | rfl | rfl | rfl | rfl | rfl | rfl | rfl | rfl | rfl | rfl | rfl | rfl | rfl | rfl | rfl
  · go_wp2
    go_ret
    refine madeFields [(fS, vS1, vS2, vS3), (fN, vN1, vN2, vN3)] _ 2 rfl rfl (Cells.new _ _ _) rfl hzP ?_ (hBP.alloc hzP _)
    intro t ht
    simp only [List.mem_cons, List.not_mem_nil, or_false] at ht
    rcases ht with rfl | rfl
    · exact (FS.next (hWn _)).2.2
    · exact (FN.next (hWn _)).2.2
  · go_wp2
    go_ret
    exact ⟨none, rfl, .inl rfl, hBP⟩
  · go_wp2
    go_ret
    refine madeFields [(fS, vS1, vS2, vS3), (fN, vN1, vN2, vN3)] _ 2 rfl rfl (Cells.new _ _ _) rfl hzP ?_ (hBP.alloc hzP _)
    intro t ht
    simp only [List.mem_cons, List.not_mem_nil, or_false] at ht
    rcases ht with rfl | rfl
    · exact (FS.next (hWn _)).2.2
    · exact (FN.next (hWn _)).2.2
  · go_wp2
    go_ret
    refine madeFields [(fS, vS1, vS2, vS3), (fN, vN1, vN2, vN3), (fB, vB1, vB2, vB3)] _ 3 rfl rfl (Cells.new _ _ _) rfl hzP ?_ (hBP.alloc hzP _)
    intro t ht
    simp only [List.mem_cons, List.not_mem_nil, or_false] at ht
    rcases ht with rfl | rfl | rfl
    · exact (FS.next (hWn _)).2.2
    · exact (FN.next (hWn _)).2.2
    · exact (FB.next (hWn _)).2.2
  · have HK := Lib.hid fun (wx wy : World) (hw : Below wx.heap.size wx wy) (h : wx.cell? ⟨bS, 0, none⟩ = some vS1 ∧ wx.cell? ⟨bS, 1, none⟩ = some vS2 ∧ wx.cell? ⟨bS, 2, none⟩ = some vS3 ∧ wx.cell? ⟨bN, 0, none⟩ = some vN1 ∧ wx.cell? ⟨bN, 1, none⟩ = some vN2 ∧ wx.cell? ⟨bN, 2, none⟩ = some vN3 ∧ wx.cell? ⟨bB, 0, none⟩ = some vB1 ∧ wx.cell? ⟨bB, 1, none⟩ = some vB2 ∧ wx.cell? ⟨bB, 2, none⟩ = some vB3) => (show wy.cell? ⟨bS, 0, none⟩ = some vS1 ∧ wy.cell? ⟨bS, 1, none⟩ = some vS2 ∧ wy.cell? ⟨bS, 2, none⟩ = some vS3 ∧ wy.cell? ⟨bN, 0, none⟩ = some vN1 ∧ wy.cell? ⟨bN, 1, none⟩ = some vN2 ∧ wy.cell? ⟨bN, 2, none⟩ = some vN3 ∧ wy.cell? ⟨bB, 0, none⟩ = some vB1 ∧ wy.cell? ⟨bB, 1, none⟩ = some vB2 ∧ wy.cell? ⟨bB, 2, none⟩ = some vB3 from ⟨(hw.cell (World.block_lt_of_cell? _ _ h.1)).trans h.1, (hw.cell (World.block_lt_of_cell? _ _ h.2.1)).trans h.2.1, (hw.cell (World.block_lt_of_cell? _ _ h.2.2.1)).trans h.2.2.1, (hw.cell (World.block_lt_of_cell? _ _ h.2.2.2.1)).trans h.2.2.2.1, (hw.cell (World.block_lt_of_cell? _ _ h.2.2.2.2.1)).trans h.2.2.2.2.1, (hw.cell (World.block_lt_of_cell? _ _ h.2.2.2.2.2.1)).trans h.2.2.2.2.2.1, (hw.cell (World.block_lt_of_cell? _ _ h.2.2.2.2.2.2.1)).trans h.2.2.2.2.2.2.1, (hw.cell (World.block_lt_of_cell? _ _ h.2.2.2.2.2.2.2.1)).trans h.2.2.2.2.2.2.2.1, (hw.cell (World.block_lt_of_cell? _ _ h.2.2.2.2.2.2.2.2)).trans h.2.2.2.2.2.2.2.2⟩)
    go_wp2
    go_region_held3 (fun w' => w'.cell? ⟨bS, 0, none⟩ = some vS1 ∧ w'.cell? ⟨bS, 1, none⟩ = some vS2 ∧ w'.cell? ⟨bS, 2, none⟩ = some vS3 ∧ w'.cell? ⟨bN, 0, none⟩ = some vN1 ∧ w'.cell? ⟨bN, 1, none⟩ = some vN2 ∧ w'.cell? ⟨bN, 2, none⟩ = some vN3 ∧ w'.cell? ⟨bB, 0, none⟩ = some vB1 ∧ w'.cell? ⟨bB, 1, none⟩ = some vB2 ∧ w'.cell? ⟨bB, 2, none⟩ = some vB3) ((first | exact ⟨kS0, kS1, kS2, kN0, kN1, kN2, kB0, kB1, kB2⟩ | assumption | exact HK.out _ _ (by assumption) (by assumption) | exact HK.out _ _ (below_new _ _) (by assumption)))
      (first | (go_at_call 39; refine (count_any 32 _).mono ?_; rintro x wc ⟨u1, u2, u3, rfl, hFc, hbc, ho⟩) | (go_at_call 44; refine (result_any _).mono ?_; rintro x wr ⟨q1, q2, q3, rfl, hFr, hbr, ho2⟩))
    all_goals
      go_wp2
      go_ret
      first
        | exact fields4 FS FN FB (((Below.refl _ W).drew).trans (hbc.trans (hbr.mono hbc.size))) ((hFc.kept (Kept.of_below hbr)).wider hzP hbr.size) hFr hBP
        | exact fields4 FS FN FB (((Below.refl _ W).drew).trans (hbr.trans (hbc.mono hbr.size))) (hFc.wider (Nat.le_trans hzP hbr.size) (Nat.le_refl _)) hFr hBP
  · have HK := Lib.hid fun (wx wy : World) (hw : Below wx.heap.size wx wy) (h : wx.cell? ⟨bB, 0, none⟩ = some vB1 ∧ wx.cell? ⟨bB, 1, none⟩ = some vB2 ∧ wx.cell? ⟨bB, 2, none⟩ = some vB3 ∧ wx.cell? ⟨bT, 0, none⟩ = some vT1 ∧ wx.cell? ⟨bT, 1, none⟩ = some vT2 ∧ wx.cell? ⟨bT, 2, none⟩ = some vT3) => (show wy.cell? ⟨bB, 0, none⟩ = some vB1 ∧ wy.cell? ⟨bB, 1, none⟩ = some vB2 ∧ wy.cell? ⟨bB, 2, none⟩ = some vB3 ∧ wy.cell? ⟨bT, 0, none⟩ = some vT1 ∧ wy.cell? ⟨bT, 1, none⟩ = some vT2 ∧ wy.cell? ⟨bT, 2, none⟩ = some vT3 from ⟨(hw.cell (World.block_lt_of_cell? _ _ h.1)).trans h.1, (hw.cell (World.block_lt_of_cell? _ _ h.2.1)).trans h.2.1, (hw.cell (World.block_lt_of_cell? _ _ h.2.2.1)).trans h.2.2.1, (hw.cell (World.block_lt_of_cell? _ _ h.2.2.2.1)).trans h.2.2.2.1, (hw.cell (World.block_lt_of_cell? _ _ h.2.2.2.2.1)).trans h.2.2.2.2.1, (hw.cell (World.block_lt_of_cell? _ _ h.2.2.2.2.2)).trans h.2.2.2.2.2⟩)
    go_wp2
    go_region_held3 (fun w' => w'.cell? ⟨bB, 0, none⟩ = some vB1 ∧ w'.cell? ⟨bB, 1, none⟩ = some vB2 ∧ w'.cell? ⟨bB, 2, none⟩ = some vB3 ∧ w'.cell? ⟨bT, 0, none⟩ = some vT1 ∧ w'.cell? ⟨bT, 1, none⟩ = some vT2 ∧ w'.cell? ⟨bT, 2, none⟩ = some vT3) ((first | exact ⟨kB0, kB1, kB2, kT0, kT1, kT2⟩ | assumption | exact HK.out _ _ (by assumption) (by assumption) | exact HK.out _ _ (below_new _ _) (by assumption)))
      (first | (go_at_call 37; refine (index_any 31 _).mono ?_; rintro x wc ⟨u1, u2, u3, rfl, hFc, hbc, ho⟩))
    all_goals
      have hF : Below W.heap.size W wc := ((Below.refl _ W).drew).trans hbc
      have hI : FieldV wc w.heap.size wc.heap.size (.whole 5 0 31) u1 u2 u3 := hFc.wider hzP (Nat.le_refl _)
      go_wp2
      go_ret
      refine madeFields [(fB, vB1, vB2, vB3), (.whole 5 0 31, u1, u2, u3), (fT, vT1, vT2, vT3)] _ 3 rfl rfl (Cells.new _ _ _) rfl (Nat.le_trans hzP hF.size) ?_ ((hBP.trans (hF.mono hzP)).alloc (Nat.le_trans hzP hF.size) _)
      intro t ht
      simp only [List.mem_cons, List.not_mem_nil, or_false] at ht
      rcases ht with rfl | rfl | rfl
      · exact ((FB.next hF).next (below_new _ _)).2.2
      · exact (hI.kept (Kept.of_below (below_new _ _))).wider (Nat.le_refl _) (by simp)
      · exact ((FT.next hF).next (below_new _ _)).2.2
  · have HK := Lib.hid fun (wx wy : World) (hw : Below wx.heap.size wx wy) (h : wx.cell? ⟨bJ, 0, none⟩ = some vJ1 ∧ wx.cell? ⟨bJ, 1, none⟩ = some vJ2 ∧ wx.cell? ⟨bJ, 2, none⟩ = some vJ3 ∧ wx.cell? ⟨bB, 0, none⟩ = some vB1 ∧ wx.cell? ⟨bB, 1, none⟩ = some vB2 ∧ wx.cell? ⟨bB, 2, none⟩ = some vB3 ∧ wx.cell? ⟨bT, 0, none⟩ = some vT1 ∧ wx.cell? ⟨bT, 1, none⟩ = some vT2 ∧ wx.cell? ⟨bT, 2, none⟩ = some vT3) => (show wy.cell? ⟨bJ, 0, none⟩ = some vJ1 ∧ wy.cell? ⟨bJ, 1, none⟩ = some vJ2 ∧ wy.cell? ⟨bJ, 2, none⟩ = some vJ3 ∧ wy.cell? ⟨bB, 0, none⟩ = some vB1 ∧ wy.cell? ⟨bB, 1, none⟩ = some vB2 ∧ wy.cell? ⟨bB, 2, none⟩ = some vB3 ∧ wy.cell? ⟨bT, 0, none⟩ = some vT1 ∧ wy.cell? ⟨bT, 1, none⟩ = some vT2 ∧ wy.cell? ⟨bT, 2, none⟩ = some vT3 from ⟨(hw.cell (World.block_lt_of_cell? _ _ h.1)).trans h.1, (hw.cell (World.block_lt_of_cell? _ _ h.2.1)).trans h.2.1, (hw.cell (World.block_lt_of_cell? _ _ h.2.2.1)).trans h.2.2.1, (hw.cell (World.block_lt_of_cell? _ _ h.2.2.2.1)).trans h.2.2.2.1, (hw.cell (World.block_lt_of_cell? _ _ h.2.2.2.2.1)).trans h.2.2.2.2.1, (hw.cell (World.block_lt_of_cell? _ _ h.2.2.2.2.2.1)).trans h.2.2.2.2.2.1, (hw.cell (World.block_lt_of_cell? _ _ h.2.2.2.2.2.2.1)).trans h.2.2.2.2.2.2.1, (hw.cell (World.block_lt_of_cell? _ _ h.2.2.2.2.2.2.2.1)).trans h.2.2.2.2.2.2.2.1, (hw.cell (World.block_lt_of_cell? _ _ h.2.2.2.2.2.2.2.2)).trans h.2.2.2.2.2.2.2.2⟩)
    go_wp2
    go_region_held3 (fun w' => w'.cell? ⟨bJ, 0, none⟩ = some vJ1 ∧ w'.cell? ⟨bJ, 1, none⟩ = some vJ2 ∧ w'.cell? ⟨bJ, 2, none⟩ = some vJ3 ∧ w'.cell? ⟨bB, 0, none⟩ = some vB1 ∧ w'.cell? ⟨bB, 1, none⟩ = some vB2 ∧ w'.cell? ⟨bB, 2, none⟩ = some vB3 ∧ w'.cell? ⟨bT, 0, none⟩ = some vT1 ∧ w'.cell? ⟨bT, 1, none⟩ = some vT2 ∧ w'.cell? ⟨bT, 2, none⟩ = some vT3) ((first | exact ⟨kJ0, kJ1, kJ2, kB0, kB1, kB2, kT0, kT1, kT2⟩ | assumption | exact HK.out _ _ (by assumption) (by assumption) | exact HK.out _ _ (below_new _ _) (by assumption)))
      (first | (go_at_call 37; refine (index_any 16 _).mono ?_; rintro x wc ⟨u1, u2, u3, rfl, hFc, hbc, ho⟩))
    all_goals
      have hF : Below W.heap.size W wc := ((Below.refl _ W).drew).trans hbc
      have hI : FieldV wc w.heap.size wc.heap.size (.whole 5 0 16) u1 u2 u3 := hFc.wider hzP (Nat.le_refl _)
      go_wp2
      go_ret
      refine madeFields [(fJ, vJ1, vJ2, vJ3), (fB, vB1, vB2, vB3), (.whole 5 0 16, u1, u2, u3), (fT, vT1, vT2, vT3)] _ 4 rfl rfl (Cells.new _ _ _) rfl (Nat.le_trans hzP hF.size) ?_ ((hBP.trans (hF.mono hzP)).alloc (Nat.le_trans hzP hF.size) _)
      intro t ht
      simp only [List.mem_cons, List.not_mem_nil, or_false] at ht
      rcases ht with rfl | rfl | rfl | rfl
      · exact ((FJ.next hF).next (below_new _ _)).2.2
      · exact ((FB.next hF).next (below_new _ _)).2.2
      · exact (hI.kept (Kept.of_below (below_new _ _))).wider (Nat.le_refl _) (by simp)
      · exact ((FT.next hF).next (below_new _ _)).2.2
  · go_wp2
    go_ret
    refine madeFields [(fS, vS1, vS2, vS3)] _ 1 rfl rfl (Cells.new _ _ _) rfl hzP ?_ (hBP.alloc hzP _)
    intro t ht
    simp only [List.mem_cons, List.not_mem_nil, or_false] at ht
    rcases ht with rfl
    · exact (FS.next (hWn _)).2.2
  · go_wp2
    go_ret
    refine madeFields [(fS, vS1, vS2, vS3), (fN, vN1, vN2, vN3)] _ 2 rfl rfl (Cells.new _ _ _) rfl hzP ?_ (hBP.alloc hzP _)
    intro t ht
    simp only [List.mem_cons, List.not_mem_nil, or_false] at ht
    rcases ht with rfl | rfl
    · exact (FS.next (hWn _)).2.2
    · exact (FN.next (hWn _)).2.2
  · go_wp2
    go_ret
    refine madeFields [(fS, vS1, vS2, vS3), (fN, vN1, vN2, vN3), (fJ, vJ1, vJ2, vJ3), (fB, vB1, vB2, vB3), (fP, vP1, vP2, vP3)] _ 5 rfl rfl (Cells.new _ _ _) rfl hzP ?_ (hBP.alloc hzP _)
    intro t ht
    simp only [List.mem_cons, List.not_mem_nil, or_false] at ht
    rcases ht with rfl | rfl | rfl | rfl | rfl
    · exact (FS.next (hWn _)).2.2
    · exact (FN.next (hWn _)).2.2
    · exact (FJ.next (hWn _)).2.2
    · exact (FB.next (hWn _)).2.2
    · exact (FP.next (hWn _)).2.2
  · go_wp2
    go_ret
    refine madeFields [(fS, vS1, vS2, vS3), (fN, vN1, vN2, vN3)] _ 2 rfl rfl (Cells.new _ _ _) rfl hzP ?_ (hBP.alloc hzP _)
    intro t ht
    simp only [List.mem_cons, List.not_mem_nil, or_false] at ht
    rcases ht with rfl | rfl
    · exact (FS.next (hWn _)).2.2
    · exact (FN.next (hWn _)).2.2
  · go_wp2
    go_ret
    refine madeFields [(fS, vS1, vS2, vS3), (fN, vN1, vN2, vN3)] _ 2 rfl rfl (Cells.new _ _ _) rfl hzP ?_ (hBP.alloc hzP _)
    intro t ht
    simp only [List.mem_cons, List.not_mem_nil, or_false] at ht
    rcases ht with rfl | rfl
    · exact (FS.next (hWn _)).2.2
    · exact (FN.next (hWn _)).2.2
  · go_wp2
    go_ret
    refine madeFields [(fS, vS1, vS2, vS3), (fN, vN1, vN2, vN3)] _ 2 rfl rfl (Cells.new _ _ _) rfl hzP ?_ (hBP.alloc hzP _)
    intro t ht
    simp only [List.mem_cons, List.not_mem_nil, or_false] at ht
    rcases ht with rfl | rfl
    · exact (FS.next (hWn _)).2.2
    · exact (FN.next (hWn _)).2.2
  · go_wp2
    go_ret
    refine madeFields [(fS, vS1, vS2, vS3), (fN, vN1, vN2, vN3)] _ 2 rfl rfl (Cells.new _ _ _) rfl hzP ?_ (hBP.alloc hzP _)
    intro t ht
    simp only [List.mem_cons, List.not_mem_nil, or_false] at ht
    rcases ht with rfl | rfl
    · exact (FS.next (hWn _)).2.2
    · exact (FN.next (hWn _)).2.2
  · have HK := Lib.hid fun (wx wy : World) (hw : Below wx.heap.size wx wy) (h : wx.cell? ⟨bB, 0, none⟩ = some vB1 ∧ wx.cell? ⟨bB, 1, none⟩ = some vB2 ∧ wx.cell? ⟨bB, 2, none⟩ = some vB3) => (show wy.cell? ⟨bB, 0, none⟩ = some vB1 ∧ wy.cell? ⟨bB, 1, none⟩ = some vB2 ∧ wy.cell? ⟨bB, 2, none⟩ = some vB3 from ⟨(hw.cell (World.block_lt_of_cell? _ _ h.1)).trans h.1, (hw.cell (World.block_lt_of_cell? _ _ h.2.1)).trans h.2.1, (hw.cell (World.block_lt_of_cell? _ _ h.2.2)).trans h.2.2⟩)
    go_wp2
    go_region_held3 (fun w' => w'.cell? ⟨bB, 0, none⟩ = some vB1 ∧ w'.cell? ⟨bB, 1, none⟩ = some vB2 ∧ w'.cell? ⟨bB, 2, none⟩ = some vB3) ((first | exact ⟨kB0, kB1, kB2⟩ | assumption | exact HK.out _ _ (by assumption) (by assumption) | exact HK.out _ _ (below_new _ _) (by assumption)))
      (first | (go_at_call 39; refine (count_any 32 _).mono ?_; rintro x wc ⟨u1, u2, u3, rfl, hFc, hbc, ho⟩))
    all_goals
      have hF : Below W.heap.size W wc := ((Below.refl _ W).drew).trans hbc
      have hI : FieldV wc w.heap.size wc.heap.size (.whole 6 0 32) u1 u2 u3 := hFc.wider hzP (Nat.le_refl _)
      go_wp2
      go_ret
      refine madeFields [(fB, vB1, vB2, vB3), (.whole 6 0 32, u1, u2, u3)] _ 2 rfl rfl (Cells.new _ _ _) rfl (Nat.le_trans hzP hF.size) ?_ ((hBP.trans (hF.mono hzP)).alloc (Nat.le_trans hzP hF.size) _)
      intro t ht
      simp only [List.mem_cons, List.not_mem_nil, or_false] at ht
      rcases ht with rfl | rfl
      · exact ((FB.next hF).next (below_new _ _)).2.2
      · exact (hI.kept (Kept.of_below (below_new _ _))).wider (Nat.le_refl _) (by simp)
  · have HK := Lib.hid fun (wx wy : World) (hw : Below wx.heap.size wx wy) (h : wx.cell? ⟨bJ, 0, none⟩ = some vJ1 ∧ wx.cell? ⟨bJ, 1, none⟩ = some vJ2 ∧ wx.cell? ⟨bJ, 2, none⟩ = some vJ3 ∧ wx.cell? ⟨bB, 0, none⟩ = some vB1 ∧ wx.cell? ⟨bB, 1, none⟩ = some vB2 ∧ wx.cell? ⟨bB, 2, none⟩ = some vB3) => (show wy.cell? ⟨bJ, 0, none⟩ = some vJ1 ∧ wy.cell? ⟨bJ, 1, none⟩ = some vJ2 ∧ wy.cell? ⟨bJ, 2, none⟩ = some vJ3 ∧ wy.cell? ⟨bB, 0, none⟩ = some vB1 ∧ wy.cell? ⟨bB, 1, none⟩ = some vB2 ∧ wy.cell? ⟨bB, 2, none⟩ = some vB3 from ⟨(hw.cell (World.block_lt_of_cell? _ _ h.1)).trans h.1, (hw.cell (World.block_lt_of_cell? _ _ h.2.1)).trans h.2.1, (hw.cell (World.block_lt_of_cell? _ _ h.2.2.1)).trans h.2.2.1, (hw.cell (World.block_lt_of_cell? _ _ h.2.2.2.1)).trans h.2.2.2.1, (hw.cell (World.block_lt_of_cell? _ _ h.2.2.2.2.1)).trans h.2.2.2.2.1, (hw.cell (World.block_lt_of_cell? _ _ h.2.2.2.2.2)).trans h.2.2.2.2.2⟩)
    go_wp2
    go_region_held3 (fun w' => w'.cell? ⟨bJ, 0, none⟩ = some vJ1 ∧ w'.cell? ⟨bJ, 1, none⟩ = some vJ2 ∧ w'.cell? ⟨bJ, 2, none⟩ = some vJ3 ∧ w'.cell? ⟨bB, 0, none⟩ = some vB1 ∧ w'.cell? ⟨bB, 1, none⟩ = some vB2 ∧ w'.cell? ⟨bB, 2, none⟩ = some vB3) ((first | exact ⟨kJ0, kJ1, kJ2, kB0, kB1, kB2⟩ | assumption | exact HK.out _ _ (by assumption) (by assumption) | exact HK.out _ _ (below_new _ _) (by assumption)))
      (first | (go_at_call 39; refine (count_any 17 _).mono ?_; rintro x wc ⟨u1, u2, u3, rfl, hFc, hbc, ho⟩))
    all_goals
      have hF : Below W.heap.size W wc := ((Below.refl _ W).drew).trans hbc
      have hI : FieldV wc w.heap.size wc.heap.size (.whole 6 0 17) u1 u2 u3 := hFc.wider hzP (Nat.le_refl _)
      go_wp2
      go_ret
      refine madeFields [(fJ, vJ1, vJ2, vJ3), (fB, vB1, vB2, vB3), (.whole 6 0 17, u1, u2, u3)] _ 3 rfl rfl (Cells.new _ _ _) rfl (Nat.le_trans hzP hF.size) ?_ ((hBP.trans (hF.mono hzP)).alloc (Nat.le_trans hzP hF.size) _)
      intro t ht
      simp only [List.mem_cons, List.not_mem_nil, or_false] at ht
      rcases ht with rfl | rfl | rfl
      · exact ((FJ.next hF).next (below_new _ _)).2.2
      · exact ((FB.next hF).next (below_new _ _)).2.2
      · exact (hI.kept (Kept.of_below (below_new _ _))).wider (Nat.le_refl _) (by simp)
  · go_wp2
    go_ret
    refine madeFields [(fJ, vJ1, vJ2, vJ3), (fB, vB1, vB2, vB3)] _ 2 rfl rfl (Cells.new _ _ _) rfl hzP ?_ (hBP.alloc hzP _)
    intro t ht
    simp only [List.mem_cons, List.not_mem_nil, or_false] at ht
    rcases ht with rfl | rfl
    · exact (FJ.next (hWn _)).2.2
    · exact (FB.next (hWn _)).2.2
end Go.Proofs.Ytpnfdmglhonkmaa
