/- Regions that draw their order and whose callees write nothing that was there ahead of the region (they may lay blocks of their own): one walk of the text's order serves every order. -/
import Derived.Test.YtjloiclbknfomaaDoorKb
import Derived.Deep.QuietTactic
set_option maxRecDepth 100000
namespace Go.Proofs.YtjloiclbknfomaaDoor
open Go.RowKit

/-- a world that holds all that w holds, as it was -/
structure BW (w : World) where
  val : World
  below : Below w.heap.size w val
instance (w : World) : Nonempty (BW w) := ⟨⟨w, Below.refl _ _⟩⟩
theorem BW.cell {w : World} (y : BW w) {a : Addr} {v : Value} (h : w.cell? a = some v) : y.val.cell? a = some v := by
  have hb : a.block < w.heap.size := World.block_lt_of_cell? w a h
  exact (y.below.cell hb).trans h
theorem BW.frozen {w : World} (y : BW w) {g : Nat} {t : TypeId} {c : Array Value} (h : Cells w g t c) (j : Nat) : y.val.frozen? ⟨g, j, none⟩ = false := (h.keep y.below).fz j
theorem below_drew1 {B : Nat} {a w : World} (h : Below B a w) : Below B a { w with drawn := w.drawn + 1 } := ⟨h.os, h.tape, h.output, h.size, h.block⟩
theorem wp_region_bw {P : Program} {id : Nat} {Q : Exit → Act → World → Prop} {a : Act} {w : World} {l : List Oper} (hm : P.follows .mixedOrders = true) (hB : Region.lexB .any l.toArray = true)
    (h : wpQuiet P l.toArray (fun w' => ∃ y : BW w, w' = y.val) (fun a' => ∀ y : BW w, Q .normal a' y.val) l a) : (Code.region id l.toArray true).wp P Q a w := by
  refine wp_region_quiet (C := fun w' => ∃ y : BW w, w' = y.val) hm hB ⟨⟨_, below_drew1 (Below.refl _ _)⟩, rfl⟩ ?_
  have e : (fun a' : Act => ∀ w', (∃ y : BW w, w' = y.val) → Q .normal a' w') = (fun a' => ∀ y : BW w, Q .normal a' y.val) := by
    funext a'
    exact propext ⟨fun h y => h _ ⟨y, rfl⟩, fun h w' ⟨y, e⟩ => e ▸ h y⟩
  rw [e]
  simpa using h
theorem Calls.quiet_bw {P : Program} {f : FuncId} {args : Array Value} {w : World} {y : BW w} {v : Value} (h : Calls P f args y.val fun e w' => e = .returned v ∧ Below y.val.heap.size y.val w') :
    Calls P f args y.val fun e w'' => e = .returned v ∧ ∃ z : BW w, w'' = z.val :=
  h.mono fun _ w' ⟨he, hb⟩ => ⟨he, ⟨w', grow_to y.below hb⟩, rfl⟩
theorem Calls.quiet_bw_same {P : Program} {f : FuncId} {args : Array Value} {w : World} {y : BW w} {v : Value} (h : Calls P f args y.val fun e w' => e = .returned v ∧ w' = y.val) :
    Calls P f args y.val fun e w'' => e = .returned v ∧ ∃ z : BW w, w'' = z.val :=
  h.mono fun _ _ ⟨he, hb⟩ => ⟨he, y, hb⟩
theorem Calls.quiet_bw_drewN {P : Program} {f : FuncId} {args : Array Value} {w : World} {y : BW w} {v : Value} (h : Calls P f args y.val fun e w' => e = .returned v ∧ ∃ n, w' = y.val.drewN n) :
    Calls P f args y.val fun e w'' => e = .returned v ∧ ∃ z : BW w, w'' = z.val :=
  Calls.quiet_bw (h.mono fun _ _ ⟨he, n, hb⟩ => ⟨he, hb ▸ below_drewN (Below.refl _ _) n⟩)
end Go.Proofs.YtjloiclbknfomaaDoor
