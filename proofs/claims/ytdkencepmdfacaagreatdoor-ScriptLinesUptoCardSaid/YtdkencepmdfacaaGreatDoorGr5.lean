/- prog.Check: may a program be (contract). Regions that draw their order and whose callees write nothing that was there ahead of the region (they may lay blocks of their own): one walk of the text's order serves every order. Regions that draw their order, whose operations but the last ones read or call what lays memory of its own, and whose last ones (in one forced order) write: one walk of the text's order serves every order. The document's Pack (contract). -/
import Derived.Test.YtdkencepmdfacaaGreatDoorKp
import Derived.Deep.LoopGhost
import Derived.Test.YtdkencepmdfacaaGreatDoorGr4
import Derived.Deep.QuietTactic
import Derived.StillTail
import Derived.Test.YtdkencepmdfacaaGreatDoorQb
set_option maxRecDepth 100000
namespace Go.Proofs.YtdkencepmdfacaaGreatDoor
open Go.RowKit Ieee

/-- a program's instructions in memory: cells of a slice -/
def InsAt (w : World) (b off : Nat) (x : Ins) : Prop :=
  w.cell? ⟨b, off, none⟩ = some (.int .i64 x.op) ∧ w.cell? ⟨b, off + 1, none⟩ = some (.int .i64 x.a) ∧ w.cell? ⟨b, off + 2, none⟩ = some (.int .i64 x.b) ∧ w.cell? ⟨b, off + 3, none⟩ = some (.int .i64 x.c) ∧ w.cell? ⟨b, off + 4, none⟩ = some (.int .i64 x.n) ∧ w.cell? ⟨b, off + 5, none⟩ = some (.int .u64 x.k)
/-- the code lies at a slice's cells, below B -/
def CodeIn (w : World) (B : Nat) (A : Option Addr) (l : List Ins) : Prop :=
  0 < l.length → ∃ b off, A = some ⟨b, off, none⟩ ∧ b < B ∧ ∀ (i : Nat) (x : Ins), l[i]? = some x → InsAt w b (off + i * 6) x ∧ x.k < 2 * signB
theorem InsAt.keep {w w' : World} {B b off : Nat} {x : Ins} (h : InsAt w b off x) (hb : Below B w w') (hlt : b < B) : InsAt w' b off x :=
  have key : ∀ (j : Nat) (v : Value), w.cell? ⟨b, j, none⟩ = some v → w'.cell? ⟨b, j, none⟩ = some v := fun j v hj => (hb.cell (p := ⟨b, j, none⟩) hlt).trans hj
  ⟨key _ _ h.1, key _ _ h.2.1, key _ _ h.2.2.1, key _ _ h.2.2.2.1, key _ _ h.2.2.2.2.1, key _ _ h.2.2.2.2.2⟩
theorem CodeIn.keep {w w' : World} {B : Nat} {A : Option Addr} {l : List Ins} (h : CodeIn w B A l) (hb : Below B w w') : CodeIn w' B A l := fun hn => by
  obtain ⟨b, off, e, hlt, hc⟩ := h hn
  exact ⟨b, off, e, hlt, fun i x hx => ⟨((hc i x hx).1).keep hb hlt, (hc i x hx).2⟩⟩
theorem CodeIn.more {w : World} {B B' : Nat} {A : Option Addr} {l : List Ins} (h : CodeIn w B A l) (hB : B ≤ B') : CodeIn w B' A l := fun hn => by
  obtain ⟨b, off, e, hlt, hc⟩ := h hn
  exact ⟨b, off, e, Nat.lt_of_lt_of_le hlt hB, hc⟩

theorem codeWrong_at {many : Nat} : ∀ (l : List Ins) (i j : Nat), (∀ k x, k < i → l[k]? = some x → insWrong x many = 0) → codeWrong many l j = codeWrong many (l.drop i) (j + min i l.length)
  | l, 0, j, _ => by simp
  | [], i + 1, j, _ => by simp
  | x :: l, i + 1, j, h => by
    have h0 := h 0 x (by omega) rfl
    rw [codeWrong, if_neg (by simpa using h0), codeWrong_at l i (j + 1) (fun k y hk hy => h (k + 1) y (by omega) (by simpa using hy))]
    simp only [List.drop_succ_cons, List.length_cons]
    congr 1
    omega

set_option maxHeartbeats 4000000 in
theorem check_any (fuel : Int) (A : Option Addr) (l : List Ins) (cap : Nat) (w : World) (hC : CodeIn w w.heap.size A l) :
    Calls Tryz.prog 66 #[.agg #[.int .i64 fuel, .slice A l.length cap]] w fun e w' => e = .returned (.tuple #[.int .i64 (progCheck fuel l).1, .int .i64 ((progCheck fuel l).2 : Nat)]) ∧ Below w.heap.size w w' := by
  by_cases h1 : fuel < 1 ∨ 1024 < fuel
  · have e0 : progCheck fuel l = (56, 0) := by unfold progCheck; exact if_pos h1
    rw [e0]
    clear e0 hC
    generalize l.length = len
    by_cases h2 : fuel < 1
    · clear h1
      go_enter Tryz.func66, Tryz.ntmps66
      go_wp2
      go_ret2
      exact ⟨rfl, (Below.refl _ _).alloc (Nat.le_refl _) _⟩
    · have h3 : 1024 < fuel := by omega
      clear h1
      go_enter Tryz.func66, Tryz.ntmps66
      go_wp2
      go_ret2
      exact ⟨rfl, (Below.refl _ _).alloc (Nat.le_refl _) _⟩
  have g1 : ¬ fuel < 1 := by omega
  have g2 : ¬ 1024 < fuel := by omega
  by_cases h2 : l.length < 1 ∨ 64 < l.length
  · have e0 : progCheck fuel l = (50, 0) := by unfold progCheck; rw [if_neg h1]; exact if_pos h2
    rw [e0]
    clear e0 hC h1
    generalize l.length = len at *
    by_cases h2 : (len : Int) < 1
    · have h3 : len = 0 := by omega
      subst h3
      go_enter Tryz.func66, Tryz.ntmps66
      go_wp2
      go_ret2
      exact ⟨rfl, (Below.refl _ _).alloc (Nat.le_refl _) _⟩
    · have h3 : (64 : Int) < len := by omega
      go_enter Tryz.func66, Tryz.ntmps66
      go_wp2
      go_ret2
      exact ⟨rfl, (Below.refl _ _).alloc (Nat.le_refl _) _⟩
  have hE0 : progCheck fuel l = codeWrong l.length l 0 := by unfold progCheck; rw [if_neg h1, if_neg h2]
  have g3 : ¬ (l.length : Int) < 1 := by omega
  have g4 : ¬ (64 : Int) < l.length := by omega
  have hm : l.length ≤ 64 := by omega
  have HE0 := Lib.hid hE0
  have HX := Lib.hid (Cells.new w 71 #[.int .i64 fuel, .slice A l.length cap])
  have HB := Lib.hid ((Below.refl w.heap.size w).alloc (Nat.le_refl _) (.cells #[.int .i64 fuel, .slice A l.length cap] 71))
  have HCC := Lib.hid hC
  clear hE0 h1 h2 hC
  have HL : Hid (∃ len, len = l.length) := Lib.hid ⟨_, rfl⟩
  generalize hlen : l.length = len at *
  have HLEN := Lib.hid hlen
  clear hlen HL
  go_enter Tryz.func66, Tryz.ntmps66
  go_wp2
  generalize w.alloc (.cells #[.int .i64 fuel, .slice A len cap] 71) = w1 at *
  go_loopw [30] (fun x wr => ∃ g : Nat, g ≤ len ∧ x = .int .i64 (g : Int) ∧ Cells wr w.heap.size 71 #[.int .i64 fuel, .slice A len cap] ∧ Below w.heap.size w wr ∧ ∀ k x, k < g → l[k]? = some x → insWrong x len = 0) (fun x _ => len - (intOf x).toNat)
  case atStart => exact ⟨0, Nat.zero_le _, rfl, HX.out, HB.out, fun k x hk _ => by omega⟩
  case round =>
    obtain ⟨g, hg, rfl, hX, hB, hok⟩ := hrel
    have HX2 := Lib.hid hX
    have HB2 := Lib.hid hB
    have HOK := Lib.hid hok
    have p1 : wr.cell? ⟨w.heap.size, 1, none⟩ = some (.slice A len cap) := hX.cell (j := 1) rfl
    have hsz := hX.lt
    clear hX hB hok
    by_cases hlt : g < len
    · obtain ⟨x, hx⟩ : ∃ x, l[g]? = some x := ⟨l[g]'(by rw [HLEN.out]; exact hlt), List.getElem?_eq_getElem _⟩
      obtain ⟨b, off, rfl, hb, hc⟩ := HCC.out (by rw [HLEN.out]; omega)
      have hcx := hc g x hx
      obtain ⟨⟨c0, c1, c2, c3, c4, c5⟩, hk⟩ := And.intro (hcx.1.keep HB2.out hb) hcx.2
      have HCX := Lib.hid hcx
      have HXG := Lib.hid hx
      clear hc hcx hx
      have i0 : (0 : Int) ≤ g := by omega
      have i1 : (g : Int) < len := by omega
      have kw := fun w => wrong_any x.op x.a x.b x.c x.n x.k len w hk hm
      have heta : (⟨x.op, x.a, x.b, x.c, x.n, x.k⟩ : Ins) = x := rfl
      rw [heta] at kw
      clear heta
      by_cases hz : insWrong x len = 0
      · have HN : Hid (∀ k y, k < g + 1 → l[k]? = some y → insWrong y len = 0) := Lib.hid fun k y hk hy => by
          rcases Nat.lt_or_ge k g with h | h
          · exact HOK.out k y h hy
          · obtain rfl : k = g := by omega
            rw [HXG.out] at hy
            injection hy with hy
            rw [← hy]
            exact hz
        rw [hz] at kw
        clear hz HOK
        have hcz : (wr.alloc (.cells #[.int .i64 x.op, .int .i64 x.a, .int .i64 x.b, .int .i64 x.c, .int .i64 x.n, .int .u64 x.k] 102)).cell? ⟨w.heap.size, 1, none⟩ = some (.slice (some ⟨b, off, none⟩) len cap) := (HX2.out.alloc _).cell (j := 1) rfl
        go_wp2_with (go_at_call 100; with_reducible (refine (kw _).mono ?_); rintro _ wy ⟨rfl, hby⟩; have HBY := Lib.hid hby; clear hby)
        refine ⟨⟨g + 1, by omega, by go_num, ?_, ?_, HN.out⟩, by simp [intOf]; omega⟩
        · exact Cells.keep (HX2.out.alloc _) HBY.out
        · exact grow_to (HB2.out.alloc HB2.out.size _) HBY.out
      · have e1 : progCheck fuel l = (insWrong x len, g) := by
          rw [HE0.out, codeWrong_at l g 0 (fun k y hk hy => HOK.out k y hk hy)]
          have hd : l.drop g = x :: l.drop (g + 1) := by
            have h := HXG.out
            obtain ⟨h1, h2⟩ := List.getElem?_eq_some_iff.1 h
            rw [List.drop_eq_getElem_cons h1, h2]
          rw [hd, codeWrong, if_pos hz, HLEN.out]
          congr 1
          omega
        have HE1 := Lib.hid e1
        have t1 : (insWrong x len == 0) = false := by rw [beq_eq_false_iff_ne]; exact hz
        have HI : Hid (insWrong x len = insWrong x len) := Lib.hid rfl
        clear e1 hz HOK HE0
        generalize insWrong x len = iw at *
        have hcz : (wr.alloc (.cells #[.int .i64 x.op, .int .i64 x.a, .int .i64 x.b, .int .i64 x.c, .int .i64 x.n, .int .u64 x.k] 102)).cell? ⟨w.heap.size, 1, none⟩ = some (.slice (some ⟨b, off, none⟩) len cap) := (HX2.out.alloc _).cell (j := 1) rfl
        go_wp2_with (go_at_call 100; with_reducible (refine (kw _).mono ?_); rintro _ wy ⟨rfl, hby⟩; have HBY := Lib.hid hby; clear hby)
        go_ret2
        exact ⟨by first | (rw [HE1.out]; done) | (rw [HE1.out]; rfl), grow_to (HB2.out.alloc HB2.out.size _) HBY.out⟩
    · obtain rfl : g = len := by omega
      have i1 : ¬ (g : Int) < g := by omega
      have e1 : progCheck fuel l = (0, 0) := by
        rw [HE0.out, codeWrong_at l g 0 (fun k y hk hy => HOK.out k y hk hy), List.drop_of_length_le (by rw [HLEN.out]; exact Nat.le_refl _)]
        rfl
      have HE1 := Lib.hid e1
      clear e1 HE0 HOK
      go_wp2
      go_ret2
      exact ⟨by first | (rw [HE1.out]; done) | (rw [HE1.out]; rfl), HB2.out⟩
-- CHECK END
end Go.Proofs.YtdkencepmdfacaaGreatDoor

set_option maxRecDepth 100000
namespace Go.Proofs.YtdkencepmdfacaaGreatDoor
open Go.RowKit

/-- a world that holds all that w holds, as it was -/
structure BW (w : World) where
  val : World
  below : Below w.heap.size w val
instance (w : World) : Nonempty (BW w) := ⟨⟨w, Below.refl _ _⟩⟩
theorem BW.cell {w : World} (y : BW w) {a : Addr} {v : Value} (h : w.cell? a = some v) : y.val.cell? a = some v := by
  have hb : a.block < w.heap.size := World.block_lt_of_cell? w a h
  exact (y.below.cell hb).trans h
theorem BW.frozen {w : World} (y : BW w) {g : Nat} {t : TypeId} {c : Array Value} (h : Cells w g t c) (j : Nat) : y.val.frozen? ⟨g, j, none⟩ = false := (h.keep y.below).fz j
theorem below_drew1 {B : Nat} {a w : World} (h : Below B a w) : Below B a { w with drawn := w.drawn + 1 } := ⟨h.os, h.tape, h.output, h.size, h.block⟩
theorem wp_region_bw {P : Program} {id : Nat} {Q : Exit → Act → World → Prop} {a : Act} {w : World} {l : List Oper} (hm : P.follows .mixedOrders = true) (hB : Region.lexB .any l.toArray = true)
    (h : wpQuiet P l.toArray (fun w' => ∃ y : BW w, w' = y.val) (fun a' => ∀ y : BW w, Q .normal a' y.val) l a) : (Code.region id l.toArray true).wp P Q a w := by
  refine wp_region_quiet (C := fun w' => ∃ y : BW w, w' = y.val) hm hB ⟨⟨_, below_drew1 (Below.refl _ _)⟩, rfl⟩ ?_
  have e : (fun a' : Act => ∀ w', (∃ y : BW w, w' = y.val) → Q .normal a' w') = (fun a' => ∀ y : BW w, Q .normal a' y.val) := by
    funext a'
    exact propext ⟨fun h y => h _ ⟨y, rfl⟩, fun h w' ⟨y, e⟩ => e ▸ h y⟩
  rw [e]
  simpa using h
theorem Calls.quiet_bw {P : Program} {f : FuncId} {args : Array Value} {w : World} {y : BW w} {v : Value} (h : Calls P f args y.val fun e w' => e = .returned v ∧ Below y.val.heap.size y.val w') :
    Calls P f args y.val fun e w'' => e = .returned v ∧ ∃ z : BW w, w'' = z.val :=
  h.mono fun _ w' ⟨he, hb⟩ => ⟨he, ⟨w', grow_to y.below hb⟩, rfl⟩
end Go.Proofs.YtdkencepmdfacaaGreatDoor

namespace Go.Proofs.YtdkencepmdfacaaGreatDoor
open Go.RowKit Go

section
variable {P : Program} {ops : Array Oper} {md : Region.Mode} {C : World → Prop}
/-- so many of the head's operations, whatever order is picked; then L -/
def HeadQ (P : Program) (md : Region.Mode) (ops : Array Oper) (C : World → Prop) (n : Nat) (L : Array Bool → Act → Prop) : Nat → Array Bool → Act → Prop
  | 0, listed, a => L listed a
  | k + 1, listed, a => Region.ready md ops listed ≠ [] ∧ ∀ i ∈ Region.ready md ops listed, i < n ∧ qOp P ops C i (HeadQ P md ops C n L k (listed.setIfInBounds i true)) a
theorem HeadQ.any {n g : Nat} {L : Array Bool → Act → Prop} {Q' : Exit → Act → World → Prop} (hL : ∀ listed a w, C w → L listed a → wpAny P md ops Q' g listed a w) :
    ∀ (k : Nat) (listed : Array Bool) (a : Act) (w : World), C w → HeadQ P md ops C n L k listed a → wpAny P md ops Q' (k + g) listed a w
  | 0, listed, a, w, hw, h => by
    rw [Nat.zero_add]
    exact hL _ _ _ hw h
  | k + 1, listed, a, w, hw, h => by
    rw [Nat.add_right_comm]
    exact ⟨fun e => absurd e h.1, fun i hi => wpOp_of_qOp hw (fun a' w' hw' h' => HeadQ.any hL k _ a' w' hw' h') (h.2 i hi).2⟩
/-- an operation that is up and free may come first -/
theorem HeadQ.first {n i : Nat} {oi : Oper} {v : Value} {L : Array Bool → Act → Prop} (hi : ops[i]? = some oi) (hsel : ∀ (j : Nat) (o : Oper) cs b, ops[j]? = some o → o.op ≠ .select cs b)
    (hs : Region.sinkB md ops n = true) (hc : Region.chainB md ops n = true) (hn : n < ops.size) (hin : i < n) (hdone : ∀ listed a, L listed a → ∀ j ∈ Region.ready md ops listed, n ≤ j) :
    ∀ (k : Nat) (listed : Array Bool) (a : Act), HeadInv md ops n listed →
      (∀ j oj, ops[j]? = some oj → j ≠ i → listed.getD j true = false → (∀ e ∈ oj.after, Region.binds md e = true → e.on ≠ i) → oi.apart ops oj = true) →
      i ∈ Region.ready md ops listed → YieldsIn P ops C oi v a →
      HeadQ P md ops C n L k (listed.setIfInBounds i true) (a.put oi.dst v) → HeadQ P md ops C n L (k + 1) listed a := by
  intro k
  induction k with
  | zero =>
    intro listed a inv _ hr hy H
    have hun := (mem_ready.1 hr).1
    refine ⟨List.ne_nil_of_mem hr, fun j hj => ?_⟩
    have hjn : j < n := Nat.lt_of_not_le fun h => tail_waits hs hc hn inv _ i rfl hin hun j h hj
    refine ⟨hjn, ?_⟩
    by_cases e : j = i
    · subst e
      exact hy.qOp hi H
    · exact absurd (hdone _ _ H j (ready_mono hj e)) (Nat.not_le.2 hjn)
  | succ k ih =>
    intro listed a inv hfree hr hy H
    have hun := (mem_ready.1 hr).1
    refine ⟨List.ne_nil_of_mem hr, fun j hj => ?_⟩
    have hjn : j < n := Nat.lt_of_not_le fun h => tail_waits hs hc hn inv _ i rfl hin hun j h hj
    refine ⟨hjn, ?_⟩
    by_cases e : j = i
    · subst e
      exact hy.qOp hi H
    · have h1 := (H.2 j (ready_mono hj e)).2
      obtain ⟨hjun, oj, hoj, hall⟩ := mem_ready.1 hj
      have hnot : ∀ x ∈ oj.after, Region.binds md x = true → x.on ≠ i := fun x hx hb heq => by
        have h2 := hall x hx hb
        rw [heq, getD_both hun] at h2
        cases h2
      have hfree' : ∀ m om, ops[m]? = some om → m ≠ i → (listed.setIfInBounds j true).getD m true = false → (∀ x ∈ om.after, Region.binds md x = true → x.on ≠ i) → oi.apart ops om = true := fun m om hm hmi hmu hno => by
        refine hfree m om hm hmi ?_ hno
        by_cases hjm : j = m
        · exact hjm ▸ hjun
        · rwa [getD_set_ne true hjm] at hmu
      refine qOp_mono (fun a' h3 => ih (listed.setIfInBounds j true) a' (inv.set hj hjn) hfree' (ready_mono hr (Ne.symm e)) h3.1 ?_) (qOp_put hoj (hfree j oj hoj e hjun hnot) (fun cs b => hsel i oi cs b hi) (fun cs b => hsel j oj cs b hoj) hy h1)
      rw [Array.setIfInBounds_comm _ _ e]
      exact h3.2
end
end Go.Proofs.YtdkencepmdfacaaGreatDoor

set_option maxRecDepth 100000
namespace Go.Proofs.YtdkencepmdfacaaGreatDoor
open Go.RowKit Ieee

theorem prog_range {fuel : Int} {l : List Ins} (h : (progCheck fuel l).1 = 0) : (1 ≤ fuel ∧ fuel ≤ 1024) ∧ 1 ≤ l.length ∧ l.length ≤ 64 := by
  unfold progCheck at h
  split at h
  · cases h
  split at h
  · cases h
  omega
/-- the bytes of the first instructions -/
def headB (fuel : Int) (l : List Ins) (g : Nat) : List UInt8 := vb fuel.toNat ++ (vb l.length ++ codeB (l.take g))
theorem headB_all {fuel : Int} {l : List Ins} (n : Nat) (h : l.length ≤ n) : headB fuel l n = progB fuel.toNat l := by unfold headB progB; rw [List.take_of_length_le h]
theorem headB_zero (fuel : Int) (l : List Ins) : headB fuel l 0 = vb fuel.toNat ++ vb l.length := by simp [headB, codeB]
theorem headB_succ {fuel : Int} {l : List Ins} {g : Nat} {x : Ins} (h : l[g]? = some x) : headB fuel l (g + 1) = headB fuel l g ++ (vb x.op.toNat ++ (x.regB ++ x.tailB)) := by
  obtain ⟨h1, h2⟩ := List.getElem?_eq_some_iff.1 h
  have e : l.take (g + 1) = l.take g ++ [x] := by rw [List.take_succ_eq_append_getElem h1, h2]
  unfold headB
  rw [e]
  simp [codeB, Ins.bytes]
theorem headB_le {fuel : Int} {l : List Ins} (h : (progCheck fuel l).1 = 0) (hk : ∀ x ∈ l, x.k < 2 * signB) (g : Nat) : (headB fuel l g).length ≤ 800 := by
  obtain ⟨h1, h2⟩ := prog_range h
  obtain ⟨fn, rfl⟩ := Int.eq_ofNat_of_zero_le (show 0 ≤ fuel by omega)
  have hf := prog_full h hk
  have hc := codeB_le (l.take g) fun x hx => ⟨(hf x (List.mem_of_mem_take hx)).1, by have := (hf x (List.mem_of_mem_take hx)).2; omega⟩
  have := vb_len10 (fn : Int).toNat (by omega)
  have := vb_len10 l.length (by omega)
  have : (l.take g).length ≤ 64 := by rw [List.length_take]; omega
  unfold headB
  simp only [List.length_append]
  omega
theorem regI_ok {x : Ins} (h : x.Full) (i : Nat) : 0 ≤ x.regI i ∧ x.regI i < 8 := by
  rcases i with _ | _ | i
  · exact h.a
  · exact h.b
  · exact h.c
theorem opRegs_le (o : Int) : 0 ≤ opRegs o ∧ opRegs o ≤ 3 := by
  unfold opRegs
  repeat' split
  all_goals decide
theorem str_app (a b : List UInt8) : str (a ++ b) = str a ++ str b := ByteArray.ext (by simp [str])
def regVto (v : Nat → Nat) (i : Nat) : List UInt8 := (List.range i).flatMap fun j => vb (v j)
theorem regVto_succ (v : Nat → Nat) (i : Nat) : regVto v (i + 1) = regVto v i ++ vb (v i) := by simp [regVto, List.range_succ]
theorem regVto_le {v : Nat → Nat} (h : ∀ i, v i < 8) : ∀ i, (regVto v i).length ≤ i
  | 0 => by simp [regVto]
  | i + 1 => by
    have := regVto_le h i
    have h2 := h i
    rw [regVto_succ, List.length_append, vb_one (by omega)]
    omega
/-- an instruction that may be, in numbers -/
theorem ins_told {x : Ins} {len : Nat} (h : x.Full) (hn : x.n ≤ (len : Int)) (hl : len ≤ 64) :
    ∃ (o r n : Nat) (v : Nat → Nat), x.op = (o : Int) ∧ x.a = (v 0 : Nat) ∧ x.b = (v 1 : Nat) ∧ x.c = (v 2 : Nat) ∧ x.n = (n : Int) ∧ 1 ≤ o ∧ o < 25 ∧ opRegs (o : Int) = (r : Int) ∧ r ≤ 3 ∧ n ≤ 64 ∧ (∀ i, v i < 8) ∧ x.k < 18446744073709551616 ∧ x.regB = regVto v r ∧ x.tailB = (if opN (o : Int) = true then vb n else []) ++ (if opK (o : Int) = true then bb x.k else []) := by
  have ho := h.op
  have ha := h.a
  have hb := h.b
  have hc := h.c
  have hn0 := h.n
  have e0 : x.op = ((x.op.toNat : Nat) : Int) := by omega
  have hr := opRegs_le x.op
  have hkb := h.kb
  refine ⟨x.op.toNat, (opRegs x.op).toNat, x.n.toNat, fun i => (x.regI i).toNat, e0, ?_, ?_, ?_, by omega, by omega, by omega, by rw [← e0]; omega, by omega, by omega, fun i => by have := regI_ok h i; show (x.regI i).toNat < 8; omega, ?_, rfl, ?_⟩
  · show x.a = (x.a.toNat : Int); omega
  · show x.b = (x.b.toNat : Int); omega
  · show x.c = (x.c.toNat : Int); omega
  · unfold signB at hkb; omega
  · rw [← e0]; rfl
theorem big_no {a b : Nat} (ha : a ≤ 820) (hb : b ≤ 10) : ¬ 9223372036854775807 < a + b := by omega
theorem big_no3 {a b c : Nat} (ha : a ≤ 820) (hb : b ≤ 10) (hc : c ≤ 8) : ¬ 9223372036854775807 < a + b + c := by omega
theorem wrap_up {g len : Nat} (h : g < len) (hl : len ≤ 64) : wrap64 ((g : Int) + 1) = (g : Int) + 1 := by unfold wrap64; omega
theorem up_end {i r : Nat} (h : i < r) (hw : wrap64 ((i : Int) + 1) = (i : Int) + 1) : r - (intOf (Value.int .i64 (wrap64 ((i : Int) + 1)))).toNat < r - (intOf (Value.int .i64 (i : Int))).toNat := by
  rw [hw]
  simp [intOf]
  omega
theorem up_val {i : Nat} (hw : wrap64 ((i : Int) + 1) = (i : Int) + 1) : Value.int .i64 (wrap64 ((i : Int) + 1)) = Value.int .i64 ((i + 1 : Nat) : Int) := by rw [hw]; rfl
theorem str_nil : str [] = ByteArray.empty := ByteArray.ext rfl
theorem wrapU {n : Nat} (h : n < 18446744073709551616) : IntKind.u64.wrap (n : Int) = n := by rw [IntKind.wrap_u64]; omega

end Go.Proofs.YtdkencepmdfacaaGreatDoor
