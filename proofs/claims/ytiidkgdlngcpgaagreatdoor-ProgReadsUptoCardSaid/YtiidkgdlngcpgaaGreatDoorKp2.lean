/- prog.Check: may a program be (contract). -/
import Derived.Test.YtiidkgdlngcpgaaGreatDoorKp
import Derived.Deep.LoopGhost
set_option maxRecDepth 100000
namespace Go.Proofs.YtiidkgdlngcpgaaGreatDoor
open Go.RowKit Ieee

/-- a program's instructions in memory: cells of a slice -/
def InsAt (w : World) (b off : Nat) (x : Ins) : Prop :=
  w.cell? ⟨b, off, none⟩ = some (.int .i64 x.op) ∧ w.cell? ⟨b, off + 1, none⟩ = some (.int .i64 x.a) ∧ w.cell? ⟨b, off + 2, none⟩ = some (.int .i64 x.b) ∧ w.cell? ⟨b, off + 3, none⟩ = some (.int .i64 x.c) ∧ w.cell? ⟨b, off + 4, none⟩ = some (.int .i64 x.n) ∧ w.cell? ⟨b, off + 5, none⟩ = some (.int .u64 x.k)
/-- the code lies at a slice's cells, below B -/
def CodeIn (w : World) (B : Nat) (A : Option Addr) (l : List Ins) : Prop :=
  0 < l.length → ∃ b off, A = some ⟨b, off, none⟩ ∧ b < B ∧ ∀ (i : Nat) (x : Ins), l[i]? = some x → InsAt w b (off + i * 6) x ∧ x.k < 2 * signB
theorem InsAt.keep {w w' : World} {B b off : Nat} {x : Ins} (h : InsAt w b off x) (hb : Below B w w') (hlt : b < B) : InsAt w' b off x :=
  have key : ∀ (j : Nat) (v : Value), w.cell? ⟨b, j, none⟩ = some v → w'.cell? ⟨b, j, none⟩ = some v := fun j v hj => (hb.cell (p := ⟨b, j, none⟩) hlt).trans hj
  ⟨key _ _ h.1, key _ _ h.2.1, key _ _ h.2.2.1, key _ _ h.2.2.2.1, key _ _ h.2.2.2.2.1, key _ _ h.2.2.2.2.2⟩
theorem CodeIn.keep {w w' : World} {B : Nat} {A : Option Addr} {l : List Ins} (h : CodeIn w B A l) (hb : Below B w w') : CodeIn w' B A l := fun hn => by
  obtain ⟨b, off, e, hlt, hc⟩ := h hn
  exact ⟨b, off, e, hlt, fun i x hx => ⟨((hc i x hx).1).keep hb hlt, (hc i x hx).2⟩⟩
theorem CodeIn.more {w : World} {B B' : Nat} {A : Option Addr} {l : List Ins} (h : CodeIn w B A l) (hB : B ≤ B') : CodeIn w B' A l := fun hn => by
  obtain ⟨b, off, e, hlt, hc⟩ := h hn
  exact ⟨b, off, e, Nat.lt_of_lt_of_le hlt hB, hc⟩

theorem codeWrong_at {many : Nat} : ∀ (l : List Ins) (i j : Nat), (∀ k x, k < i → l[k]? = some x → insWrong x many = 0) → codeWrong many l j = codeWrong many (l.drop i) (j + min i l.length)
  | l, 0, j, _ => by simp
  | [], i + 1, j, _ => by simp
  | x :: l, i + 1, j, h => by
    have h0 := h 0 x (by omega) rfl
    rw [codeWrong, if_neg (by simpa using h0), codeWrong_at l i (j + 1) (fun k y hk hy => h (k + 1) y (by omega) (by simpa using hy))]
    simp only [List.drop_succ_cons, List.length_cons]
    congr 1
    omega

set_option maxHeartbeats 4000000 in
theorem check_any (fuel : Int) (A : Option Addr) (l : List Ins) (cap : Nat) (w : World) (hC : CodeIn w w.heap.size A l) :
    Calls Tryz.prog 12 #[.agg #[.int .i64 fuel, .slice A l.length cap]] w fun e w' => e = .returned (.tuple #[.int .i64 (progCheck fuel l).1, .int .i64 ((progCheck fuel l).2 : Nat)]) ∧ Below w.heap.size w w' := by
  by_cases h1 : fuel < 1 ∨ 1024 < fuel
  · have e0 : progCheck fuel l = (56, 0) := by unfold progCheck; exact if_pos h1
    rw [e0]
    clear e0 hC
    generalize l.length = len
    by_cases h2 : fuel < 1
    · clear h1
      go_enter Tryz.func12, Tryz.ntmps12
      go_wp2
      go_ret2
      exact ⟨rfl, (Below.refl _ _).alloc (Nat.le_refl _) _⟩
    · have h3 : 1024 < fuel := by omega
      clear h1
      go_enter Tryz.func12, Tryz.ntmps12
      go_wp2
      go_ret2
      exact ⟨rfl, (Below.refl _ _).alloc (Nat.le_refl _) _⟩
  have g1 : ¬ fuel < 1 := by omega
  have g2 : ¬ 1024 < fuel := by omega
  by_cases h2 : l.length < 1 ∨ 64 < l.length
  · have e0 : progCheck fuel l = (50, 0) := by unfold progCheck; rw [if_neg h1]; exact if_pos h2
    rw [e0]
    clear e0 hC h1
    generalize l.length = len at *
    by_cases h2 : (len : Int) < 1
    · have h3 : len = 0 := by omega
      subst h3
      go_enter Tryz.func12, Tryz.ntmps12
      go_wp2
      go_ret2
      exact ⟨rfl, (Below.refl _ _).alloc (Nat.le_refl _) _⟩
    · have h3 : (64 : Int) < len := by omega
      go_enter Tryz.func12, Tryz.ntmps12
      go_wp2
      go_ret2
      exact ⟨rfl, (Below.refl _ _).alloc (Nat.le_refl _) _⟩
  have hE0 : progCheck fuel l = codeWrong l.length l 0 := by unfold progCheck; rw [if_neg h1, if_neg h2]
  have g3 : ¬ (l.length : Int) < 1 := by omega
  have g4 : ¬ (64 : Int) < l.length := by omega
  have hm : l.length ≤ 64 := by omega
  have HE0 := Lib.hid hE0
  have HX := Lib.hid (Cells.new w 24 #[.int .i64 fuel, .slice A l.length cap])
  have HB := Lib.hid ((Below.refl w.heap.size w).alloc (Nat.le_refl _) (.cells #[.int .i64 fuel, .slice A l.length cap] 24))
  have HCC := Lib.hid hC
  clear hE0 h1 h2 hC
  have HL : Hid (∃ len, len = l.length) := Lib.hid ⟨_, rfl⟩
  generalize hlen : l.length = len at *
  have HLEN := Lib.hid hlen
  clear hlen HL
  go_enter Tryz.func12, Tryz.ntmps12
  go_wp2
  generalize w.alloc (.cells #[.int .i64 fuel, .slice A len cap] 24) = w1 at *
  go_loopw [30] (fun x wr => ∃ g : Nat, g ≤ len ∧ x = .int .i64 (g : Int) ∧ Cells wr w.heap.size 24 #[.int .i64 fuel, .slice A len cap] ∧ Below w.heap.size w wr ∧ ∀ k x, k < g → l[k]? = some x → insWrong x len = 0) (fun x _ => len - (intOf x).toNat)
  case atStart => exact ⟨0, Nat.zero_le _, rfl, HX.out, HB.out, fun k x hk _ => by omega⟩
  case round =>
    obtain ⟨g, hg, rfl, hX, hB, hok⟩ := hrel
    have HX2 := Lib.hid hX
    have HB2 := Lib.hid hB
    have HOK := Lib.hid hok
    have p1 : wr.cell? ⟨w.heap.size, 1, none⟩ = some (.slice A len cap) := hX.cell (j := 1) rfl
    have hsz := hX.lt
    clear hX hB hok
    by_cases hlt : g < len
    · obtain ⟨x, hx⟩ : ∃ x, l[g]? = some x := ⟨l[g]'(by rw [HLEN.out]; exact hlt), List.getElem?_eq_getElem _⟩
      obtain ⟨b, off, rfl, hb, hc⟩ := HCC.out (by rw [HLEN.out]; omega)
      have hcx := hc g x hx
      obtain ⟨⟨c0, c1, c2, c3, c4, c5⟩, hk⟩ := And.intro (hcx.1.keep HB2.out hb) hcx.2
      have HCX := Lib.hid hcx
      have HXG := Lib.hid hx
      clear hc hcx hx
      have i0 : (0 : Int) ≤ g := by omega
      have i1 : (g : Int) < len := by omega
      have kw := fun w => wrong_any x.op x.a x.b x.c x.n x.k len w hk hm
      have heta : (⟨x.op, x.a, x.b, x.c, x.n, x.k⟩ : Ins) = x := rfl
      rw [heta] at kw
      clear heta
      by_cases hz : insWrong x len = 0
      · have HN : Hid (∀ k y, k < g + 1 → l[k]? = some y → insWrong y len = 0) := Lib.hid fun k y hk hy => by
          rcases Nat.lt_or_ge k g with h | h
          · exact HOK.out k y h hy
          · obtain rfl : k = g := by omega
            rw [HXG.out] at hy
            injection hy with hy
            rw [← hy]
            exact hz
        rw [hz] at kw
        clear hz HOK
        have hcz : (wr.alloc (.cells #[.int .i64 x.op, .int .i64 x.a, .int .i64 x.b, .int .i64 x.c, .int .i64 x.n, .int .u64 x.k] 43)).cell? ⟨w.heap.size, 1, none⟩ = some (.slice (some ⟨b, off, none⟩) len cap) := (HX2.out.alloc _).cell (j := 1) rfl
        go_wp2_with (go_at_call 25; with_reducible (refine (kw _).mono ?_); rintro _ wy ⟨rfl, hby⟩; have HBY := Lib.hid hby; clear hby)
        refine ⟨⟨g + 1, by omega, by go_num, ?_, ?_, HN.out⟩, by simp [intOf]; omega⟩
        · exact Cells.keep (HX2.out.alloc _) HBY.out
        · exact grow_to (HB2.out.alloc HB2.out.size _) HBY.out
      · have e1 : progCheck fuel l = (insWrong x len, g) := by
          rw [HE0.out, codeWrong_at l g 0 (fun k y hk hy => HOK.out k y hk hy)]
          have hd : l.drop g = x :: l.drop (g + 1) := by
            have h := HXG.out
            obtain ⟨h1, h2⟩ := List.getElem?_eq_some_iff.1 h
            rw [List.drop_eq_getElem_cons h1, h2]
          rw [hd, codeWrong, if_pos hz, HLEN.out]
          congr 1
          omega
        have HE1 := Lib.hid e1
        have t1 : (insWrong x len == 0) = false := by rw [beq_eq_false_iff_ne]; exact hz
        have HI : Hid (insWrong x len = insWrong x len) := Lib.hid rfl
        clear e1 hz HOK HE0
        generalize insWrong x len = iw at *
        have hcz : (wr.alloc (.cells #[.int .i64 x.op, .int .i64 x.a, .int .i64 x.b, .int .i64 x.c, .int .i64 x.n, .int .u64 x.k] 43)).cell? ⟨w.heap.size, 1, none⟩ = some (.slice (some ⟨b, off, none⟩) len cap) := (HX2.out.alloc _).cell (j := 1) rfl
        go_wp2_with (go_at_call 25; with_reducible (refine (kw _).mono ?_); rintro _ wy ⟨rfl, hby⟩; have HBY := Lib.hid hby; clear hby)
        go_ret2
        exact ⟨by first | (rw [HE1.out]; done) | (rw [HE1.out]; rfl), grow_to (HB2.out.alloc HB2.out.size _) HBY.out⟩
    · obtain rfl : g = len := by omega
      have i1 : ¬ (g : Int) < g := by omega
      have e1 : progCheck fuel l = (0, 0) := by
        rw [HE0.out, codeWrong_at l g 0 (fun k y hk hy => HOK.out k y hk hy), List.drop_of_length_le (by rw [HLEN.out]; exact Nat.le_refl _)]
        rfl
      have HE1 := Lib.hid e1
      clear e1 HE0 HOK
      go_wp2
      go_ret2
      exact ⟨by first | (rw [HE1.out]; done) | (rw [HE1.out]; rfl), HB2.out⟩
-- CHECK END
end Go.Proofs.YtiidkgdlngcpgaaGreatDoor
