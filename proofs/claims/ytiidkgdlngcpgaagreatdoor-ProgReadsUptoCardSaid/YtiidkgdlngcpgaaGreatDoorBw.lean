/- Regions that draw their order and whose callees write nothing that was there ahead of the region (they may lay blocks of their own): one walk of the text's order serves every order. Regions that draw their order, whose operations but the last ones read or call what lays memory of its own, and whose last ones (in one forced order) write: one walk of the text's order serves every order. -/
import Derived.Test.YtiidkgdlngcpgaaGreatDoorKb
import Derived.Deep.QuietTactic
import Derived.StillTail
set_option maxRecDepth 100000
namespace Go.Proofs.YtiidkgdlngcpgaaGreatDoor
open Go.RowKit

/-- a world that holds all that w holds, as it was -/
structure BW (w : World) where
  val : World
  below : Below w.heap.size w val
instance (w : World) : Nonempty (BW w) := ⟨⟨w, Below.refl _ _⟩⟩
theorem BW.cell {w : World} (y : BW w) {a : Addr} {v : Value} (h : w.cell? a = some v) : y.val.cell? a = some v := by
  have hb : a.block < w.heap.size := World.block_lt_of_cell? w a h
  exact (y.below.cell hb).trans h
theorem BW.frozen {w : World} (y : BW w) {g : Nat} {t : TypeId} {c : Array Value} (h : Cells w g t c) (j : Nat) : y.val.frozen? ⟨g, j, none⟩ = false := (h.keep y.below).fz j
theorem below_drew1 {B : Nat} {a w : World} (h : Below B a w) : Below B a { w with drawn := w.drawn + 1 } := ⟨h.os, h.tape, h.output, h.size, h.block⟩
theorem wp_region_bw {P : Program} {id : Nat} {Q : Exit → Act → World → Prop} {a : Act} {w : World} {l : List Oper} (hm : P.follows .mixedOrders = true) (hB : Region.lexB .any l.toArray = true)
    (h : wpQuiet P l.toArray (fun w' => ∃ y : BW w, w' = y.val) (fun a' => ∀ y : BW w, Q .normal a' y.val) l a) : (Code.region id l.toArray true).wp P Q a w := by
  refine wp_region_quiet (C := fun w' => ∃ y : BW w, w' = y.val) hm hB ⟨⟨_, below_drew1 (Below.refl _ _)⟩, rfl⟩ ?_
  have e : (fun a' : Act => ∀ w', (∃ y : BW w, w' = y.val) → Q .normal a' w') = (fun a' => ∀ y : BW w, Q .normal a' y.val) := by
    funext a'
    exact propext ⟨fun h y => h _ ⟨y, rfl⟩, fun h w' ⟨y, e⟩ => e ▸ h y⟩
  rw [e]
  simpa using h
theorem Calls.quiet_bw {P : Program} {f : FuncId} {args : Array Value} {w : World} {y : BW w} {v : Value} (h : Calls P f args y.val fun e w' => e = .returned v ∧ Below y.val.heap.size y.val w') :
    Calls P f args y.val fun e w'' => e = .returned v ∧ ∃ z : BW w, w'' = z.val :=
  h.mono fun _ w' ⟨he, hb⟩ => ⟨he, ⟨w', grow_to y.below hb⟩, rfl⟩
theorem Calls.quiet_bw_same {P : Program} {f : FuncId} {args : Array Value} {w : World} {y : BW w} {v : Value} (h : Calls P f args y.val fun e w' => e = .returned v ∧ w' = y.val) :
    Calls P f args y.val fun e w'' => e = .returned v ∧ ∃ z : BW w, w'' = z.val :=
  h.mono fun _ _ ⟨he, hb⟩ => ⟨he, y, hb⟩
theorem Calls.quiet_bw_drewN {P : Program} {f : FuncId} {args : Array Value} {w : World} {y : BW w} {v : Value} (h : Calls P f args y.val fun e w' => e = .returned v ∧ ∃ n, w' = y.val.drewN n) :
    Calls P f args y.val fun e w'' => e = .returned v ∧ ∃ z : BW w, w'' = z.val :=
  Calls.quiet_bw (h.mono fun _ _ ⟨he, n, hb⟩ => ⟨he, hb ▸ below_drewN (Below.refl _ _) n⟩)
end Go.Proofs.YtiidkgdlngcpgaaGreatDoor

namespace Go.Proofs.YtiidkgdlngcpgaaGreatDoor
open Go.RowKit Go

section
variable {P : Program} {ops : Array Oper} {md : Region.Mode} {C : World → Prop}
/-- so many of the head's operations, whatever order is picked; then L -/
def HeadQ (P : Program) (md : Region.Mode) (ops : Array Oper) (C : World → Prop) (n : Nat) (L : Array Bool → Act → Prop) : Nat → Array Bool → Act → Prop
  | 0, listed, a => L listed a
  | k + 1, listed, a => Region.ready md ops listed ≠ [] ∧ ∀ i ∈ Region.ready md ops listed, i < n ∧ qOp P ops C i (HeadQ P md ops C n L k (listed.setIfInBounds i true)) a
theorem HeadQ.any {n g : Nat} {L : Array Bool → Act → Prop} {Q' : Exit → Act → World → Prop} (hL : ∀ listed a w, C w → L listed a → wpAny P md ops Q' g listed a w) :
    ∀ (k : Nat) (listed : Array Bool) (a : Act) (w : World), C w → HeadQ P md ops C n L k listed a → wpAny P md ops Q' (k + g) listed a w
  | 0, listed, a, w, hw, h => by
    rw [Nat.zero_add]
    exact hL _ _ _ hw h
  | k + 1, listed, a, w, hw, h => by
    rw [Nat.add_right_comm]
    exact ⟨fun e => absurd e h.1, fun i hi => wpOp_of_qOp hw (fun a' w' hw' h' => HeadQ.any hL k _ a' w' hw' h') (h.2 i hi).2⟩
/-- an operation that is up and free may come first -/
theorem HeadQ.first {n i : Nat} {oi : Oper} {v : Value} {L : Array Bool → Act → Prop} (hi : ops[i]? = some oi) (hsel : ∀ (j : Nat) (o : Oper) cs b, ops[j]? = some o → o.op ≠ .select cs b)
    (hs : Region.sinkB md ops n = true) (hc : Region.chainB md ops n = true) (hn : n < ops.size) (hin : i < n) (hdone : ∀ listed a, L listed a → ∀ j ∈ Region.ready md ops listed, n ≤ j) :
    ∀ (k : Nat) (listed : Array Bool) (a : Act), HeadInv md ops n listed →
      (∀ j oj, ops[j]? = some oj → j ≠ i → listed.getD j true = false → (∀ e ∈ oj.after, Region.binds md e = true → e.on ≠ i) → oi.apart ops oj = true) →
      i ∈ Region.ready md ops listed → YieldsIn P ops C oi v a →
      HeadQ P md ops C n L k (listed.setIfInBounds i true) (a.put oi.dst v) → HeadQ P md ops C n L (k + 1) listed a := by
  intro k
  induction k with
  | zero =>
    intro listed a inv _ hr hy H
    have hun := (mem_ready.1 hr).1
    refine ⟨List.ne_nil_of_mem hr, fun j hj => ?_⟩
    have hjn : j < n := Nat.lt_of_not_le fun h => tail_waits hs hc hn inv _ i rfl hin hun j h hj
    refine ⟨hjn, ?_⟩
    by_cases e : j = i
    · subst e
      exact hy.qOp hi H
    · exact absurd (hdone _ _ H j (ready_mono hj e)) (Nat.not_le.2 hjn)
  | succ k ih =>
    intro listed a inv hfree hr hy H
    have hun := (mem_ready.1 hr).1
    refine ⟨List.ne_nil_of_mem hr, fun j hj => ?_⟩
    have hjn : j < n := Nat.lt_of_not_le fun h => tail_waits hs hc hn inv _ i rfl hin hun j h hj
    refine ⟨hjn, ?_⟩
    by_cases e : j = i
    · subst e
      exact hy.qOp hi H
    · have h1 := (H.2 j (ready_mono hj e)).2
      obtain ⟨hjun, oj, hoj, hall⟩ := mem_ready.1 hj
      have hnot : ∀ x ∈ oj.after, Region.binds md x = true → x.on ≠ i := fun x hx hb heq => by
        have h2 := hall x hx hb
        rw [heq, getD_both hun] at h2
        cases h2
      have hfree' : ∀ m om, ops[m]? = some om → m ≠ i → (listed.setIfInBounds j true).getD m true = false → (∀ x ∈ om.after, Region.binds md x = true → x.on ≠ i) → oi.apart ops om = true := fun m om hm hmi hmu hno => by
        refine hfree m om hm hmi ?_ hno
        by_cases hjm : j = m
        · exact hjm ▸ hjun
        · rwa [getD_set_ne true hjm] at hmu
      refine qOp_mono (fun a' h3 => ih (listed.setIfInBounds j true) a' (inv.set hj hjn) hfree' (ready_mono hr (Ne.symm e)) h3.1 ?_) (qOp_put hoj (hfree j oj hoj e hjun hnot) (fun cs b => hsel i oi cs b hi) (fun cs b => hsel j oj cs b hoj) hy h1)
      rw [Array.setIfInBounds_comm _ _ e]
      exact h3.2
theorem HeadQ.lex {n g : Nat} {Lq : Act → Prop} (hsel : Region.noSelect ops = true) (hs : Region.sinkB md ops n = true) (hc : Region.chainB md ops n = true) (hn : n < ops.size) :
    ∀ (l : List Oper) (k : Nat) (listed : Array Bool) (a : Act), (∀ j, j < l.length → l[j]? = ops[k + j]?) → k + l.length = n → HeadInv md ops n listed →
    Region.lexHead md ops g l.length k listed = true → wpQuiet P ops C Lq l a → HeadQ P md ops C n (fun listed' a' => Region.seqB md ops g n listed' = true ∧ Lq a') l.length listed a
  | [], k, listed, a, _, hk, _, hB, h => by
    obtain rfl : k = n := by simpa using hk
    exact ⟨by simpa [Region.lexHead] using hB, h⟩
  | o :: l, k, listed, a, hl, hk, inv, hB, h => by
    have h0 : ops[k]? = some o := by simpa using (hl 0 (by simp)).symm
    simp only [List.length_cons, Region.lexHead, Bool.and_eq_true] at hB
    obtain ⟨⟨hr, hf⟩, hB'⟩ := hB
    simp only [List.length_cons] at hk
    have hkn : k < n := by omega
    have hr' : k ∈ Region.ready md ops listed := by simpa using hr
    have hq : qOp P ops C k (wpQuiet P ops C Lq l) a := by
      unfold qOp
      simp only [h0]
      exact h
    obtain ⟨v, hy, hK⟩ := yieldsIn_of_qOp h0 hq
    refine HeadQ.first h0 (Region.noSelect_spec hsel) hs hc hn hkn (fun listed' a' hL => seqB_ready hL.1) l.length listed a inv (Region.free_spec h0 hf) hr' hy ?_
    refine HeadQ.lex hsel hs hc hn l (k + 1) _ _ (fun j hj => ?_) (by omega) (inv.set hr' hkn) hB' hK
    have := hl (j + 1) (by simp; omega)
    simpa [Nat.add_assoc, Nat.add_comm 1 j] using this
end
/-- the first n operations read, or call what lays memory of its own; the rest come in one forced order -/
theorem wp_region_bw_tail {P : Program} {id : Nat} {Q : Exit → Act → World → Prop} {a : Act} {w : World} {l : List Oper} (n : Nat) (hm : P.follows .mixedOrders = true) (hB : Region.lexTailB .any l.toArray n = true)
    (h : wpQuiet P l.toArray (fun w' => ∃ y : BW w, w' = y.val) (fun a' => ∀ y : BW w, wpList P l.toArray Q (l.drop n) a' y.val) (l.take n) a) : (Code.region id l.toArray true).wp P Q a w := by
  simp only [Region.lexTailB, Bool.and_eq_true, decide_eq_true_eq] at hB
  obtain ⟨⟨⟨⟨hsel, hn⟩, hs⟩, hc⟩, hlex⟩ := hB
  have hn' : n < l.length := by simpa using hn
  have htl : (l.take n).length = n := by simp; omega
  have hdl : (l.drop n).length = l.toArray.size - n := by simp
  have inv0 : HeadInv .any l.toArray n (Array.replicate l.toArray.size false) :=
    ⟨by simp, fun j oj _ hl => (by rw [getD_replicate_false] at hl; cases hl), fun t _ ht => getD_in (by simpa using ht) (getD_replicate_false _ _)⟩
  have H := HeadQ.lex (md := .any) (g := l.toArray.size - n) hsel hs hc hn (l.take n) 0 _ a (fun j hj => by
    rw [htl] at hj
    simp [hj]) (by simpa using htl) inv0 (by rw [htl]; exact hlex) h
  refine wp_region_any hm ?_
  have H2 := HeadQ.any (Q' := Q) (g := l.toArray.size - n) (fun listed a' w' hw hL => by
    obtain ⟨y, rfl⟩ := hw
    have h3 := wpAny_of_seq (md := .any) (Q' := Q) (l.drop n) n listed a' y.val (fun j => by simp [List.getElem?_drop]) (by rw [hdl]; exact hL.1) (hL.2 y)
    rwa [hdl] at h3) _ _ _ { w with drawn := w.drawn + 1 } ⟨⟨_, below_drew1 (Below.refl _ _)⟩, rfl⟩ H
  rw [htl, show n + (l.toArray.size - n) = l.toArray.size by omega] at H2
  exact H2
end Go.Proofs.YtiidkgdlngcpgaaGreatDoor
