/- An argument that is a slice of calls of sinks, opened to its cells. -/
import Derived.Test.YtpnfdmglhonkmaaRw
import Derived.Test.YtpnfdmglhonkmaaMb
set_option maxRecDepth 100000
namespace Go.Proofs.Ytpnfdmglhonkmaa
open Go.ChangeShapes Go.WideShapes Go.Deep Go.RowKit

structure SOp where
  kind : Int
  on : Int
  job : Int
  badge : Int
  index : Int
  text : ByteArray
  data : ByteArray
  nd : Int
  lf : Int
deriving Inhabited

def inI64 (x : Int) : Prop := -9223372036854775808 ≤ x ∧ x ≤ 9223372036854775807
structure SOp.Fit (o : SOp) : Prop where
  kind : inI64 o.kind
  on : inI64 o.on
  job : inI64 o.job
  badge : inI64 o.badge
  index : inI64 o.index
  text : o.text.size < 1048576
  data : o.data.size < 1048576

structure OpCells (w : World) (b off : Nat) (o : SOp) : Prop where
  c0 : w.cell? ⟨b, off, none⟩ = some (.int .i64 o.kind)
  c1 : w.cell? ⟨b, off + 1, none⟩ = some (.int .i64 o.on)
  c2 : w.cell? ⟨b, off + 2, none⟩ = some (.int .i64 o.job)
  c3 : w.cell? ⟨b, off + 3, none⟩ = some (.int .i64 o.badge)
  c4 : w.cell? ⟨b, off + 4, none⟩ = some (.int .i64 o.index)
  c5 : w.cell? ⟨b, off + 5, none⟩ = some (.string o.text)
  c6 : w.cell? ⟨b, off + 6, none⟩ = some (.string o.data)
  c7 : w.cell? ⟨b, off + 7, none⟩ = some (.int .i64 o.nd)
  c8 : w.cell? ⟨b, off + 8, none⟩ = some (.int .i64 o.lf)

/-- the script's cells lie below B -/
def OpsIn (w : World) (B : Nat) (A : Option Addr) (l : List SOp) : Prop :=
  0 < l.length → ∃ b off, A = some ⟨b, off, none⟩ ∧ b < B ∧ ∀ (k : Nat) (o : SOp), l[k]? = some o → OpCells w b (off + k * 9) o

theorem cell_below {B : Nat} {w w' : World} {b i : Nat} {v : Value} (hb : Below B w w') (h : w.cell? ⟨b, i, none⟩ = some v) (hlt : b < B) : w'.cell? ⟨b, i, none⟩ = some v := by
  have e := hb.block b hlt
  unfold World.cell? at h ⊢
  rw [e]
  exact h

theorem OpCells.below {B : Nat} {w w' : World} {b off : Nat} {o : SOp} (h : OpCells w b off o) (hb : Below B w w') (hlt : b < B) : OpCells w' b off o :=
  ⟨cell_below hb h.c0 hlt, cell_below hb h.c1 hlt, cell_below hb h.c2 hlt, cell_below hb h.c3 hlt, cell_below hb h.c4 hlt, cell_below hb h.c5 hlt, cell_below hb h.c6 hlt, cell_below hb h.c7 hlt, cell_below hb h.c8 hlt⟩
theorem OpCells.drewN {w : World} {b off : Nat} {o : SOp} (h : OpCells w b off o) (n : Nat) : OpCells (w.drewN n) b off o := ⟨h.c0, h.c1, h.c2, h.c3, h.c4, h.c5, h.c6, h.c7, h.c8⟩

theorem OpsIn.below {w w' : World} {B : Nat} {A : Option Addr} {l : List SOp} (h : OpsIn w B A l) (hb : Below B w w') : OpsIn w' B A l := fun hn => by
  obtain ⟨b, off, e, hlt, hc⟩ := h hn
  exact ⟨b, off, e, hlt, fun k o hk => (hc k o hk).below hb hlt⟩

theorem bulk_each {H : Type} {l : List (DataW H)} {d : DataW H} (h : Rows.uptoBulkAll l ≤ 1048576) (hd : d ∈ l) : Rows.uptoBulk d ≤ 1048576 := by
  have key : ∀ (l : List (DataW H)) (d : DataW H), d ∈ l → Rows.uptoBulk d ≤ Rows.uptoBulkAll l := by
    intro l
    induction l with
    | nil => intro d hd; cases hd
    | cons x xs ih =>
      intro d hd
      rw [Rows.uptoBulkAll]
      rcases List.mem_cons.1 hd with rfl | hd
      · omega
      · have := ih d hd
        omega
  have := key l d hd
  omega

theorem cells_op : Try.prog.cellsOf 3 = 1 ∧ Try.prog.cellsOf 9 = 1 ∧ Try.prog.cellsOf 31 = 2 ∧ Try.prog.cellsOf 33 = 9 := by
  refine ⟨?_, ?_, ?_, ?_⟩ <;> kernel_rfl

theorem wfi64 {n : Int} (h : (Lit.int .i64 n).wf = true) : inI64 n := by
  simpa [inI64, Lit.wf, IntKind.min, IntKind.max, IntKind.signed, IntKind.bits] using h

theorem list9 {α : Type} {l : List α} (h : l.length = 9) : ∃ a b c d e f g i j, l = [a, b, c, d, e, f, g, i, j] := by
  match l, h with
  | [a, b, c, d, e, f, g, i, j], _ => exact ⟨a, b, c, d, e, f, g, i, j, rfl⟩
theorem list8 {α : Type} {l : List α} (h : l.length = 8) : ∃ a b c d e f g i, l = [a, b, c, d, e, f, g, i] := by
  match l, h with
  | [a, b, c, d, e, f, g, i], _ => exact ⟨a, b, c, d, e, f, g, i, rfl⟩
theorem list2 {α : Type} {l : List α} (h : l.length = 2) : ∃ a b, l = [a, b] := by
  match l, h with
  | [a, b], _ => exact ⟨a, b, rfl⟩

set_option maxHeartbeats 2000000 in
theorem open_sops {H : Type} {enc : TypeId × Value → H} {W : World} {base : Nat} {v : Value} {d : DataW H} {ps : List MemPlace}
    (hv : Value.okWide Try.prog W .any base 22 v) (h : DataW.Trod enc Try.prog W 0 (fun _ => true) true 22 v d ps) (hk : Rows.uptoBulk d ≤ 1048576) :
    ∃ (A : Option Addr) (c : Nat) (l : List SOp), v = .slice A l.length c ∧ OpsIn W W.heap.size A l ∧ (∀ o ∈ l, o.Fit) ∧ l.length < 1048576 := by
  obtain ⟨ci, cs, ca, co⟩ := cells_op
  obtain ⟨a0, len, cap, rfl⟩ := okWide_slice Try.underlying22 hv
  obtain ⟨fuel, hf⟩ := h
  rcases open_slice Try.underlying22 hf with ⟨hcs, hx⟩ | ⟨a, len', cap', m, n, D, Pl, hcs, hb, hl, hm, hmm, hx, hcell⟩
  · simp [Value.cells] at hcs
    obtain ⟨rfl, rfl, rfl⟩ := hcs
    exact ⟨none, 0, [], rfl, fun h => absurd h (by simp), by simp, by simp⟩
  · simp [Value.cells] at hcs
    obtain ⟨rfl, rfl, rfl⟩ := hcs
    injection hx with hd _
    subst hd
    have hlen : len < 1048576 := by simpa using bulk_slice hk
    have hlm : len ≤ m := by rw [hmm]; split <;> omega
    have hbk : Rows.uptoBulkAll ((List.range len).map D) ≤ 1048576 := by
      rw [Rows.uptoBulk] at hk
      omega
    have each : ∀ i, i < len → ∃ o : SOp, o.Fit ∧ W.cell? (a.add (i * 9)) = some (.int .i64 o.kind) ∧ W.cell? (a.add (i * 9 + 1)) = some (.int .i64 o.on) ∧ W.cell? (a.add (i * 9 + 2)) = some (.int .i64 o.job) ∧ W.cell? (a.add (i * 9 + 3)) = some (.int .i64 o.badge) ∧ W.cell? (a.add (i * 9 + 4)) = some (.int .i64 o.index) ∧
        W.cell? (a.add (i * 9 + 5)) = some (.string o.text) ∧ W.cell? (a.add (i * 9 + 6)) = some (.string o.data) ∧ W.cell? (a.add (i * 9 + 7)) = some (.int .i64 o.nd) ∧ W.cell? (a.add (i * 9 + 8)) = some (.int .i64 o.lf) := by
      intro i hi
      obtain ⟨cs', hc, ht'⟩ := hcell i (by omega)
      rw [co] at hc
      obtain ⟨ys, n', hn', hy, hlen', hyl, hg⟩ := DataW.trod_struct Try.underlying33 ht'
      obtain ⟨_, hcl, hat⟩ := World.cells?_some hc
      obtain ⟨u0, u1, u2, u3, u4, u5, u6, u7, u8, rfl⟩ := list9 hcl
      obtain ⟨y0, y1, y2, y3, y4, y5, y6, y7, rfl⟩ := list8 hyl
      have t0 := hg 0 _ rfl
      have t1 := hg 1 _ rfl
      have t2 := hg 2 _ rfl
      have t3 := hg 3 _ rfl
      have t4 := hg 4 _ rfl
      have t5 := hg 5 _ rfl
      have t6 := hg 6 _ rfl
      have t7 := hg 7 _ rfl
      simp [ci, cs, ca] at t0 t1 t2 t3 t4 t5 t6 t7
      obtain ⟨x0, e0, z0, w0⟩ := DataW.trod_int Try.underlying3 t0
      obtain ⟨x1, e1, z1, w1⟩ := DataW.trod_int Try.underlying3 t1
      obtain ⟨x2, e2, z2, w2⟩ := DataW.trod_int Try.underlying3 t2
      obtain ⟨x3, e3, z3, w3⟩ := DataW.trod_int Try.underlying3 t3
      obtain ⟨x4, e4, z4, w4⟩ := DataW.trod_int Try.underlying3 t4
      obtain ⟨x5, e5, z5, w5⟩ := DataW.trod_string Try.underlying9 t5
      obtain ⟨x6, e6, z6, w6⟩ := DataW.trod_string Try.underlying9 t6
      obtain ⟨us, n7, _, hu, _, hul, hug⟩ := DataW.trod_struct Try.underlying31 t7
      obtain ⟨p0, p1, rfl⟩ := list2 hul
      have r0 := hug 0 _ rfl
      have r1 := hug 1 _ rfl
      simp [ci] at r0 r1
      obtain ⟨x7, e7, z7, w7⟩ := DataW.trod_int Try.underlying3 r0
      obtain ⟨x8, e8, z8, w8⟩ := DataW.trod_int Try.underlying3 r1
      simp at e0 e1 e2 e3 e4 e5 e6 e7 e8
      subst e0 e1 e2 e3 e4 e5 e6 e7 e8
      simp only [Prod.mk.injEq] at hy
      have hbd : Rows.uptoBulk (D i) ≤ 1048576 := bulk_each hbk (List.mem_map.2 ⟨i, List.mem_range.2 hi, rfl⟩)
      rw [hy.1] at hbd
      simp only [List.map_cons, List.map_nil, Rows.uptoBulk, Rows.uptoBulkAll] at hbd
      have b5 : Rows.uptoBulk y5.1 ≤ 1048576 := by omega
      have b6 : Rows.uptoBulk y6.1 ≤ 1048576 := by omega
      rw [z5] at b5
      rw [z6] at b6
      have q := fun j hj => (show W.cell? (a.add (i * 9 + j)) = _ from (Go.Deep.add_add a (i * 9) j).symm ▸ hat j hj)
      refine ⟨⟨x0, x1, x2, x3, x4, x5, x6, x7, x8⟩, ⟨wfi64 w0, wfi64 w1, wfi64 w2, wfi64 w3, wfi64 w4, bulk_string b5, bulk_string b6⟩, ?_, ?_, ?_, ?_, ?_, ?_, ?_, ?_, ?_⟩
      · exact q 0 (by omega)
      · exact q 1 (by omega)
      · exact q 2 (by omega)
      · exact q 3 (by omega)
      · exact q 4 (by omega)
      · exact q 5 (by omega)
      · exact q 6 (by omega)
      · exact q 7 (by omega)
      · exact q 8 (by omega)
    obtain ⟨Q, hQ⟩ := choose_lt each
    have hlq : ((List.range len).map Q).length = len := by simp
    refine ⟨some a, cap, (List.range len).map Q, by rw [hlq], fun hn => ?_, fun o ho => ?_, by rw [hlq]; exact hlen⟩
    · rw [hlq] at hn
      have h0 := (hQ 0 hn).2.1
      rw [show a.add (0 * 9) = a from rfl] at h0
      have ha := addr_plain h0
      refine ⟨a.block, a.off, by rw [← ha], World.block_lt_of_cell? W a h0, fun k o hk => ?_⟩
      have hkl : k < len := by
        have := (List.getElem?_eq_some_iff.1 hk).1
        rw [hlq] at this
        exact this
      obtain rfl : Q k = o := by
        simp only [List.getElem?_map, List.getElem?_range hkl, Option.map_some, Option.some.injEq] at hk
        exact hk
      obtain ⟨_, q0, q1, q2, q3, q4, q5, q6, q7, q8⟩ := hQ k hkl
      rw [ha] at q0 q1 q2 q3 q4 q5 q6 q7 q8
      simp only [add_plain] at q0 q1 q2 q3 q4 q5 q6 q7 q8
      exact ⟨q0, q1, q2, q3, q4, q5, q6, q7, q8⟩
    · obtain ⟨k, hk, rfl⟩ := List.mem_map.1 ho
      exact (hQ k (List.mem_range.1 hk)).1
theorem open_addr {H : Type} {enc : TypeId × Value → H} {W : World} {base : Nat} {v : Value} {d : DataW H} {ps : List MemPlace}
    (hv : Value.okWide Try.prog W .any base 31 v) (h : DataW.Trod enc Try.prog W 0 (fun _ => true) true 31 v d ps) :
    ∃ nd lf : Int, v = .agg #[.int .i64 nd, .int .i64 lf] ∧ inI64 nd ∧ inI64 lf := by
  obtain ⟨ci, cs, ca, co⟩ := cells_op
  obtain ⟨cells, rfl, hsz⟩ := okWide_struct Try.underlying31 hv
  rw [ca] at hsz
  obtain ⟨l⟩ := cells
  match l, hsz with
  | [c0, c1], _ =>
    obtain ⟨fuel, hf⟩ := h
    obtain ⟨xs, n, _, hx, _, hlen, hg⟩ := DataW.trod_struct Try.underlying31 hf
    match xs, hlen with
    | [y0, y1], _ =>
      have t0 := hg 0 _ rfl
      have t1 := hg 1 _ rfl
      simp [ci, Value.cells] at t0 t1
      obtain ⟨x0, e0, z0, w0⟩ := DataW.trod_int Try.underlying3 t0
      obtain ⟨x1, e1, z1, w1⟩ := DataW.trod_int Try.underlying3 t1
      simp at e0 e1
      subst e0 e1
      exact ⟨x0, x1, rfl, wfi64 w0, wfi64 w1⟩
end Go.Proofs.Ytpnfdmglhonkmaa
