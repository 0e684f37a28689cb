/- An array of 64 laid, built and stored: its cells kept as one letter. -/
import Derived.Test.YtjloiclbknfomaaDoorKb
import Derived.Deep.WholeRow
set_option maxRecDepth 100000
namespace Go.Proofs.YtjloiclbknfomaaDoor
open Go.RowKit

theorem ex_build {P : Program} {t : TypeId} {zs : Array Value} (hz : ∀ w, (zeroValue t).run P w = .ok (.agg zs) w) (len : Nat) (e : TypeId) (hu : ∀ w, (Go.underlying t).run P w = .ok (.array len e) w) (k : Nat) (hs : ∀ w, (Go.sizeOf e).run P w = .ok k w) (ev : Operand → Value) (o : Oper) (h : o.op = .build t #[]) (w : World) : (execOp ev o).run P w = .ok (.value (.agg zs)) w := by
  unfold execOp
  rw [h]
  simp [go_sem, hz, hu, hs]
theorem ex_alloc {P : Program} {t : TypeId} {zs : Array Value} (hz : ∀ w, (zeroValue t).run P w = .ok (.agg zs) w) (ev : Operand → Value) (o : Oper) (h : o.op = .alloc t) (w : World) : (execOp ev o).run P w = .ok (.value (.pointer (some ⟨w.heap.size, 0, none⟩))) (w.alloc (.cells zs t)) := by
  unfold execOp
  rw [h]
  simp [go_sem, hz]
theorem ex_store {P : Program} {t : TypeId} {zs : Array Value} (hi : (P.info? t).map (·.size) = some zs.size) (ho : zs.all (·.oneCell') = true) (ev : Operand → Value) (o : Oper) (p v : Operand) (h : o.op = .store t p v) (w : World) (hp : ev p = .pointer (some ⟨w.heap.size, 0, none⟩)) (hv : ev v = .agg zs) : (execOp ev o).run P (w.alloc (.cells zs t)) = .ok .skip (w.alloc (.cells zs t)) := by
  have hs := run_storeAt_new (P := P) w t zs zs hi rfl ho
  unfold execOp
  rw [h]
  simp [hp, hv, hs]
/-- 'x := [n]T{}': the region of three operations -/
theorem wp_array {P : Program} {Q : Exit → Act → World → Prop} {a : Act} {w : World} {id : Nat} {o1 o2 o3 : Oper} {t : TypeId} {zs : Array Value} {z s : Nat} {len : Nat} {e : TypeId} {k : Nat}
    (hz : ∀ w, (zeroValue t).run P w = .ok (.agg zs) w) (hu : ∀ w, (Go.underlying t).run P w = .ok (.array len e) w) (hs : ∀ w, (Go.sizeOf e).run P w = .ok k w) (hi : (P.info? t).map (·.size) = some zs.size) (ho : zs.all (·.oneCell') = true)
    (g1 : o1.guard = none) (g2 : o2.guard = none) (g3 : o3.guard = none) (h1 : o1.op = .build t #[]) (h2 : o2.op = .alloc t) (h3 : o3.op = .store t (.tmp s) (.tmp z)) (d1 : o1.dst = some z) (d2 : o2.dst = some s) (d3 : o3.dst = none)
    (hzs : z ≠ s) (lz : z < a.tmps.size) (ls : s < a.tmps.size)
    (h : Q .normal ((a.put (some z) (.agg zs)).put (some s) (.pointer (some ⟨w.heap.size, 0, none⟩))) (w.alloc (.cells zs t))) : (Code.region id #[o1, o2, o3] false).wp P Q a w := by
  refine wp_region_lit (l := [o1, o2, o3]) ?_
  refine wpList_plain g1 fun K hK => ?_
  show o1.upon P a K Q _
  rw [ex_build hz len e hu k hs _ _ h1, Oper.upon_value, d1]
  refine hK _ _ (wpList_plain g2 fun K hK => ?_)
  show o2.upon P _ K Q _
  rw [ex_alloc hz _ _ h2, Oper.upon_value, d2]
  refine hK _ _ (wpList_plain g3 fun K hK => ?_)
  show o3.upon P _ K Q _
  rw [ex_store hi ho _ _ _ _ h3, Oper.upon_skip, d3]
  · exact hK _ _ (wpList_nil h)
  · simp [Act.eval, Act.put, ls]
  · simp [Act.eval, Act.put, Ne.symm hzs, lz]
def noBools : Array Value := Array.replicate 64 (.bool false)
theorem bools_zero (w : World) : (zeroValue 54).run Tryd.prog w = .ok (.agg noBools) w := by
  rw [Tryd.zeroValue54]
  rfl
theorem bools_under (w : World) : (Go.underlying 54).run Tryd.prog w = .ok (.array 64 4) w := by simp [go_sem]
theorem bools_size (w : World) : (Go.sizeOf 4).run Tryd.prog w = .ok 1 w := by simp [go_sem]
def boolsOf (D : List Bool) : Array Value := (D.map Value.bool).toArray
theorem boolsOf_none : noBools = boolsOf (List.replicate 64 false) := rfl
theorem boolsOf_set (D : List Bool) (j : Nat) (b : Bool) : (boolsOf D).setIfInBounds j (.bool b) = boolsOf (D.set j b) := by
  unfold boolsOf
  simp
theorem boolsOf_at {D : List Bool} {j : Nat} (h : j < D.length) : (boolsOf D)[j]? = some (.bool (D.getD j false)) := by
  unfold boolsOf
  simp [List.getElem?_eq_getElem h]
theorem bools_info : (Tryd.prog.info? 54).map (·.size) = some noBools.size := by kernel_rfl
theorem bools_one : noBools.all (·.oneCell') = true := by kernel_rfl
end Go.Proofs.YtjloiclbknfomaaDoor
